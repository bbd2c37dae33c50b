/- Parts of one proof, joined: K3, K4, K5, K7, Kg, Kh. No condition of its own. -/
import Derived.Test.YtoholjdojdmbkaaGreatDoorXK
namespace Go.Proofs.YtoholjdojdmbkaaGreatDoor
open Go Go.RowKit Go.Dw
/-- a scanner in a heaplet -/
def ScI (h : Hp) (b : Nat) (s : Byts) (k l c : Nat) : Prop := Own 74 4 h (some ⟨b, 0, none⟩) 1 1 (plcs s k l c)
theorem step_spec {s : Byts} {b a l c n : Nat} {h : Hp} (w : World) (hin : h.In w) (hP : ScI h b s a l c) (hn : a + n ≤ s.length) (hs : s.length < 1000000) (hl : l < 10000000) (hc : c < 10000000) :
    CallsE Tryz.prog 83 #[.pointer (some ⟨b, 0, none⟩), .int .i64 n] w (RetM w h fun _ h' cs => cs = [] ∧ ScI h' b s (a + n) (pasN (l, c) ((s.drop a).take n)).1 (pasN (l, c) ((s.drop a).take n)).2) := by
  refine enterM (X := cx 45) (cxg _) (args := [.pointer (some ⟨b, 0, none⟩), .int .i64 n]) hin [] Tryz.func83 rfl rfl rfl rfl rfl ?_
  refine NeedL.mk (Nat × Hp) (fun g => [(0, .v (.pointer (some ⟨b, 0, none⟩))), (1, .v (.int .i64 n)), (4, .v (.int .i64 g.1))]) (fun g => [.hp ((Hp.whole w).minus h), .hp g.2])
    (fun g => g.1 ≤ n ∧ ScI g.2 b s (a + g.1) (pasN (l, c) ((s.drop a).take g.1)).1 (pasN (l, c) ((s.drop a).take g.1)).2) (fun g => n - g.1) (0, h) ⟨Nat.zero_le _, hP⟩ (Ent.mk (fun _ _ h => h) rfl rfl) ?_
  rintro ⟨k, hh⟩ ⟨hk, hQ⟩
  dsimp only at *
  have hb := pasN_le (l, c) ((s.drop a).take k)
  rw [List.length_take] at hb
  dsimp only at hb
  refine bsplitd (fun h1 => ?_) (fun h1 => ?_)
  · have hk' : k < n := by omega
    have hsn := pasN_snoc (l, c) ((s.drop a).take k) (s.getD (a + k) 0)
    rw [← take_snocD s a k (by omega)] at hsn
    generalize hL : (pasN (l, c) ((s.drop a).take k)).1 = L at *
    generalize hC : (pasN (l, c) ((s.drop a).take k)).2 = C at *
    have hpp : pasN (l, c) ((s.drop a).take k) = (L, C) := by rw [← hL, ← hC]
    rw [hpp] at hsn
    unfold ScI plcs at hQ
    refine old1 (j := 3) (cxg _) (i := 1) rfl hQ rfl rfl ?_
    refine nw (by omega) (by omega) ?_
    refine ost (j := 3) (cxg _) (i := 1) rfl hQ rfl rfl rfl (by decide) rfl fun h2 hQ2 => ?_
    have hQ3 : Own 74 4 h2 (some ⟨b, 0, none⟩) 1 1 [.string (bs s), .int .i64 ((a + k : Nat) : Int), .int .i64 L, .int .i64 ((C : Int) + 1)] := hQ2
    refine NeedD.by_order (cxg _) (.take 0 <| .take 1 <| .take 2 <| .take 3 <| .take 4 <| .take 5 <| .take 6 <| .take 7 <| .take 8 <| .take 9 <| .done) (by kernel_rfl) ?_
    refine old1 (j := 0) (cxg _) (i := 1) rfl hQ3 rfl rfl ?_
    refine old1 (j := 1) (cxg _) (i := 1) rfl hQ3 rfl rfl ?_
    refine qIdxL (cxg _) rfl rfl (a + k) rfl (by omega) ?_
    generalize s.getD (a + k) 0 = d at *
    refine bsplitd (fun h3 => ?_) (fun h3 => ?_)
    · have hd : d = 10 := UInt8.toNat_inj.1 (by show d.toNat = 10; omega)
      have hp1 : pas1 (L, C) d = (L + 1, 1) := by unfold pas1; rw [if_pos hd]
      rw [hp1] at hsn
      refine old1 (j := 2) (cxg _) (i := 1) rfl hQ3 rfl rfl ?_
      refine nw (by omega) (by omega) ?_
      refine ost (j := 2) (cxg _) (i := 1) rfl hQ3 rfl rfl rfl (by decide) rfl fun h3' hQ4 => ?_
      have hQ5 : Own 74 4 h3' (some ⟨b, 0, none⟩) 1 1 [.string (bs s), .int .i64 ((a + k : Nat) : Int), .int .i64 ((L : Int) + 1), .int .i64 ((C : Int) + 1)] := hQ4
      refine ost (j := 3) (cxg _) (i := 1) rfl hQ5 rfl rfl rfl (by decide) rfl fun h4 hQ6 => ?_
      have hQ7 : Own 74 4 h4 (some ⟨b, 0, none⟩) 1 1 [.string (bs s), .int .i64 ((a + k : Nat) : Int), .int .i64 ((L : Int) + 1), .int .i64 1] := hQ6
      refine old1 (j := 1) (cxg _) (i := 1) rfl hQ7 rfl rfl ?_
      refine nw (by omega) (by omega) ?_
      refine ost (j := 1) (cxg _) (i := 1) rfl hQ7 rfl rfl rfl (by decide) rfl fun h5 hQ8 => ?_
      have hQ9 : ScI h5 b s (a + (k + 1)) (L + 1) 1 := by
        have e : ((a + k : Nat) : Int) + 1 = ((a + (k + 1) : Nat) : Int) := by omega
        have e2 : (L : Int) + 1 = ((L + 1 : Nat) : Int) := by omega
        rw [e, e2] at hQ8
        exact hQ8
      refine nw (by omega) (by omega) ?_
      exact ⟨(k + 1, h5), ⟨by dsimp only; omega, by dsimp only; rw [hsn]; exact hQ9⟩, by dsimp only; omega, Ent.mk (fun _ _ h => h) rfl rfl⟩
    · have hd : ¬ d = 10 := fun e => h3 (by rw [e]; rfl)
      have hp1 : pas1 (L, C) d = (L, C + 1) := by unfold pas1; rw [if_neg hd]
      rw [hp1] at hsn
      refine old1 (j := 1) (cxg _) (i := 1) rfl hQ3 rfl rfl ?_
      refine nw (by omega) (by omega) ?_
      refine ost (j := 1) (cxg _) (i := 1) rfl hQ3 rfl rfl rfl (by decide) rfl fun h5 hQ8 => ?_
      have hQ9 : ScI h5 b s (a + (k + 1)) L (C + 1) := by
        have e : ((a + k : Nat) : Int) + 1 = ((a + (k + 1) : Nat) : Int) := by omega
        have e2 : (C : Int) + 1 = ((C + 1 : Nat) : Int) := by omega
        rw [e, e2] at hQ8
        exact hQ8
      refine nw (by omega) (by omega) ?_
      exact ⟨(k + 1, h5), ⟨by dsimp only; omega, by dsimp only; rw [hsn]; exact hQ9⟩, by dsimp only; omega, Ent.mk (fun _ _ h => h) rfl rfl⟩
  · have : k = n := by omega
    subst this
    exact ⟨hh, [], ⟨rfl, hQ⟩, fun w' h => h⟩
/-- where the blanks end -/
structure BlE (s : Byts) (k0 l0 c0 k l c : Nat) : Prop where
  fa : k0 ≤ k
  fb : k ≤ s.length
  fl : l ≤ 2 * k + 1
  fc : c ≤ 2 * k + 1
  fr : ∀ out, scR s k0 (l0, c0) out = scR s k (l, c) out
set_option maxRecDepth 20000 in
set_option maxHeartbeats 1000000 in
theorem blanks_spec {s : Byts} {b k0 l0 c0 : Nat} {h : Hp} (w : World) (hin : h.In w) (hP : ScI h b s k0 l0 c0) (hk : k0 ≤ s.length) (hs : s.length < 1000000) (hl : l0 ≤ 2 * k0 + 1) (hc : c0 ≤ 2 * k0 + 1) :
    CallsE Tryz.prog 36 #[.pointer (some ⟨b, 0, none⟩)] w (RetM w h fun _ h' cs => cs = [] ∧ ∃ k l c, ScI h' b s k l c ∧ BlE s k0 l0 c0 k l c ∧ (k < s.length → tokB (s.getD k 0))) := by
  refine enterM (X := cx 72) (cxg _) (args := [.pointer (some ⟨b, 0, none⟩)]) hin [] Tryz.func36 rfl rfl rfl rfl rfl ?_
  have hz := bs_size s
  refine NeedL.mk (Nat × Nat × Nat × Hp) (fun g => [(0, .v (.pointer (some ⟨b, 0, none⟩)))]) (fun g => [.hp ((Hp.whole w).minus h), .hp g.2.2.2])
    (fun g => ScI g.2.2.2 b s g.1 g.2.1 g.2.2.1 ∧ BlE s k0 l0 c0 g.1 g.2.1 g.2.2.1) (fun g => s.length - g.1) (k0, l0, c0, h) ⟨hP, ⟨Nat.le_refl _, hk, hl, hc, fun _ => rfl⟩⟩ (Ent.mk (fun _ _ h => h) rfl rfl) ?_
  rintro ⟨k, l, c, hh⟩ ⟨hQ, hB⟩
  dsimp only at *
  have hQ0 := hQ
  unfold ScI plcs at hQ0
  refine NeedD.by_order (cxg _) (.take 0 <| .take 1 <| .take 2 <| .take 3 <| .take 4 <| .take 5 <| .take 6 <| .take 7 <| .take 8 <| .take 9 <| .done) (by kernel_rfl) ?_
  refine old1 (j := 1) (cxg _) (i := 1) rfl hQ0 rfl rfl ?_
  refine old1 (j := 0) (cxg _) (i := 1) rfl hQ0 rfl rfl ?_
  have hbk := hB.fb
  have hbl := hB.fl
  have hbc := hB.fc
  have hba := hB.fa
  refine bsplitd (fun h1 => ?_) (fun h1 => ?_)
  · have hks : k < s.length := by omega
    refine NeedD.by_order (cxg _) (.take 0 <| .take 1 <| .take 2 <| .take 3 <| .take 4 <| .take 5 <| .take 6 <| .take 7 <| .take 8 <| .take 9 <| .take 10 <| .done) (by kernel_rfl) ?_
    refine old1 (j := 0) (cxg _) (i := 1) rfl hQ0 rfl rfl ?_
    refine old1 (j := 1) (cxg _) (i := 1) rfl hQ0 rfl rfl ?_
    refine qIdxL (cxg _) rfl rfl k rfl hks ?_
    generalize hd : s.getD k 0 = d at *
    refine bsplitd (fun h2 => ?_) (fun h2 => ?_)
    · have hd1 : d = 35 := byte_is (k := 35) rfl h2
      have hg0 : ∀ i, (s.drop k).getD i 0 = s.getD (k + i) 0 := fun i => getD_drop7 s k i
      refine NeedL.mk (Nat × Hp) (fun g => [(0, .v (.pointer (some ⟨b, 0, none⟩)))]) (fun g => [.hp ((Hp.whole w).minus h), .hp g.2])
        (fun g => k + g.1 ≤ s.length ∧ (∀ i, i < g.1 → (!decide (s.getD (k + i) 0 = 10)) = true) ∧ ScI g.2 b s (k + g.1) (pasN (l, c) ((s.drop k).take g.1)).1 (pasN (l, c) ((s.drop k).take g.1)).2) (fun g => s.length - g.1) (0, hh) ⟨hbk, fun i hi => absurd hi (Nat.not_lt_zero _), hQ⟩ (Ent.mk (fun _ _ h => h) rfl rfl) ?_
      rintro ⟨m, h3⟩ ⟨hm, ha, hQ3⟩
      dsimp only at *
      have hb3 := pasN_le (l, c) ((s.drop k).take m)
      rw [List.length_take, List.length_drop] at hb3
      dsimp only at hb3
      have hsn : k + m < s.length → pasN (l, c) ((s.drop k).take (m + 1)) = pas1 (pasN (l, c) ((s.drop k).take m)) (s.getD (k + m) 0) := fun hlt => by
        rw [take_snocD s k m hlt, pasN_snoc]
      generalize hL : (pasN (l, c) ((s.drop k).take m)).1 = L at *
      generalize hC : (pasN (l, c) ((s.drop k).take m)).2 = C at *
      have hpp : pasN (l, c) ((s.drop k).take m) = (L, C) := by rw [← hL, ← hC]
      have hQ4 := hQ3
      unfold ScI plcs at hQ4
      have hL1 : L < 10000000 := by omega
      have hC1 : C < 10000000 := by omega
      have hend : (k + m < s.length → s.getD (k + m) 0 = 10) → ∃ g : Nat × Nat × Nat × Hp, (ScI g.2.2.2 b s g.1 g.2.1 g.2.2.1 ∧ BlE s k0 l0 c0 g.1 g.2.1 g.2.2.1) ∧ s.length - g.1 < s.length - k ∧ g.2.2.2 = h3 := fun he => by
        have hr : runN (fun c => !decide (c = 10)) (s.drop k) = m := run_next (by rw [List.length_drop]; omega) (fun i hi => by rw [hg0]; exact ha i hi) (fun hlt => by
          rw [List.length_drop] at hlt
          rw [hg0, he (by omega)]; rfl)
        have hr0 := (run_pos (fun c => !decide (c = 10)) (s.drop k)).2 ⟨by rw [List.length_drop]; omega, by rw [hg0, Nat.add_zero, hd, hd1]; rfl⟩
        rw [hr] at hr0
        refine ⟨(k + m, L, C, h3), ⟨hQ3, ⟨by omega, hm, by dsimp only; omega, by dsimp only; omega, fun out => ?_⟩⟩, by dsimp only; omega, rfl⟩
        rw [hB.fr out, scR_note hks (hd.trans hd1), hr, hpp]
      refine NeedD.by_order (cxg _) (.take 0 <| .take 1 <| .take 2 <| .take 3 <| .take 4 <| .take 5 <| .take 6 <| .take 7 <| .take 8 <| .take 9 <| .take 10 <| .take 11 <| .take 12 <| .take 13 <| .take 14 <| .take 15 <| .take 16 <| .take 17 <| .take 18 <| .take 19 <| .take 20 <| .take 21 <| .done) (by kernel_rfl) ?_
      refine old1 (j := 1) (cxg _) (i := 1) rfl hQ4 rfl rfl ?_
      refine old1 (j := 0) (cxg _) (i := 1) rfl hQ4 rfl rfl ?_
      refine bsplitd (fun h4 => ?_) (fun h4 => ?_)
      · have h4 : k + m < s.length := by omega
        refine old1 (j := 0) (cxg _) (i := 1) rfl hQ4 rfl rfl ?_
        refine old1 (j := 1) (cxg _) (i := 1) rfl hQ4 rfl rfl ?_
        refine qIdxL (cxg _) rfl rfl (k + m) rfl h4 ?_
        refine bsplitd (fun h5 => ?_) (fun h5 => ?_)
        · have h5 : s.getD (k + m) 0 ≠ 10 := byte_ne (k := 10) rfl h5
          refine callM (i := 1) rfl (fun w' hm' => step_spec w' (hm' 1 _ rfl) hQ3 (n := 1) h4 hs hL1 hC1) ?_
          rintro _ h6 _ ⟨rfl, hQ6⟩
          have e1 : pasN (L, C) ((s.drop (k + m)).take 1) = pasN (l, c) ((s.drop k).take (m + 1)) := by
            rw [hsn h4, hpp, drop_at h4]; rfl
          rw [e1] at hQ6
          exact ⟨(m + 1, h6), ⟨by dsimp only; omega, fun i hi => by
            rcases Nat.lt_or_ge i m with g | g
            · exact ha i g
            · have : i = m := by dsimp only at hi; omega
              subst this; simpa using h5, hQ6⟩, by dsimp only; omega, Ent.mk (fun _ _ h => h) rfl rfl⟩
        · have h5 : s.getD (k + m) 0 = 10 := Classical.byContradiction fun g => h5 fun e => g (byte_is (k := 10) rfl e)
          obtain ⟨g, hg1, hg2, hg3⟩ := hend fun _ => h5
          exact ⟨g, hg1, hg2, Ent.mk (fun _ _ h => by rw [hg3]; exact h) rfl rfl⟩
      · obtain ⟨g, hg1, hg2, hg3⟩ := hend fun g => absurd g (by omega)
        exact ⟨g, hg1, hg2, Ent.mk (fun _ _ h => by rw [hg3]; exact h) rfl rfl⟩
    · have hd1 : d ≠ 35 := byte_ne (k := 35) rfl h2
      obtain ⟨L, C, hLC⟩ : ∃ L C, pasN (l, c) ((s.drop k).take 1) = (L, C) := ⟨_, _, rfl⟩
      have hfin : d = 32 ∨ d = 10 → ∀ h6, ScI h6 b s (k + 1) L C → ∃ g : Nat × Nat × Nat × Hp, (ScI g.2.2.2 b s g.1 g.2.1 g.2.2.1 ∧ BlE s k0 l0 c0 g.1 g.2.1 g.2.2.1) ∧ s.length - g.1 < s.length - k ∧ g.2.2.2 = h6 := fun hdd h6 hQ6 => by
        have hb3 := pasN_le (l, c) ((s.drop k).take 1)
        rw [List.length_take, List.length_drop, hLC] at hb3
        dsimp only at hb3
        refine ⟨(k + 1, L, C, h6), ⟨hQ6, ⟨by dsimp only; omega, by dsimp only; omega, by dsimp only; omega, by dsimp only; omega, fun out => ?_⟩⟩, by dsimp only; omega, rfl⟩
        rw [hB.fr out, scR_blank hks (by rw [hd]; exact hdd), ← hLC, drop_at hks]; rfl
      refine NeedD.by_order (cxg _) (.take 0 <| .take 1 <| .take 2 <| .take 3 <| .take 4 <| .take 5 <| .take 6 <| .take 7 <| .take 8 <| .take 9 <| .take 10 <| .take 11 <| .take 12 <| .take 13 <| .take 14 <| .take 15 <| .take 16 <| .take 17 <| .take 18 <| .take 19 <| .take 20 <| .take 21 <| .take 22 <| .done) (by kernel_rfl) ?_
      refine old1 (j := 0) (cxg _) (i := 1) rfl hQ0 rfl rfl ?_
      refine old1 (j := 1) (cxg _) (i := 1) rfl hQ0 rfl rfl ?_
      refine qIdxL (cxg _) rfl rfl k rfl hks ?_
      rw [hd]
      refine bsplitd (fun h3 => ?_) (fun h3 => ?_)
      · have hd2 : d = 32 := byte_is (k := 32) rfl h3
        refine callM (i := 1) rfl (fun w' hm' => step_spec w' (hm' 1 _ rfl) hQ (n := 1) (by omega) hs (by omega) (by omega)) ?_
        rintro _ h6 _ ⟨rfl, hQ6⟩
        rw [hLC] at hQ6
        obtain ⟨g, hg1, hg2, hg3⟩ := hfin (.inl hd2) h6 hQ6
        exact ⟨g, hg1, hg2, Ent.mk (fun _ _ h => by rw [hg3]; exact h) rfl rfl⟩
      · refine old1 (j := 0) (cxg _) (i := 1) rfl hQ0 rfl rfl ?_
        refine old1 (j := 1) (cxg _) (i := 1) rfl hQ0 rfl rfl ?_
        refine qIdxL (cxg _) rfl rfl k rfl hks ?_
        rw [hd]
        refine bsplitd (fun h4 => ?_) (fun h4 => ?_)
        · have hd2 : d = 10 := byte_is (k := 10) rfl h4
          refine callM (i := 1) rfl (fun w' hm' => step_spec w' (hm' 1 _ rfl) hQ (n := 1) (by omega) hs (by omega) (by omega)) ?_
          rintro _ h6 _ ⟨rfl, hQ6⟩
          rw [hLC] at hQ6
          obtain ⟨g, hg1, hg2, hg3⟩ := hfin (.inr hd2) h6 hQ6
          exact ⟨g, hg1, hg2, Ent.mk (fun _ _ h => by rw [hg3]; exact h) rfl rfl⟩
        · exact ⟨hh, [], ⟨rfl, k, l, c, hQ, hB, fun _ => by rw [hd]; exact ⟨byte_ne (k := 32) rfl h3, byte_ne (k := 10) rfl h4, hd1⟩⟩, fun w' h => h⟩
  · exact ⟨hh, [], ⟨rfl, k, l, c, hQ, hB, fun g => absurd g (by omega)⟩, fun w' h => h⟩
end Go.Proofs.YtoholjdojdmbkaaGreatDoor
namespace Go.Proofs.YtoholjdojdmbkaaGreatDoor
open Go Go.RowKit Go.Dw
theorem small35_spec (c : UInt8) (w : World) : CallsE Tryz.prog 114 #[.int .u8 c.toNat] w (RetV w (.bool (isLow c))) := by
  refine enter (X := cx 9) (cxg _) (args := [.int .u8 c.toNat]) [.tmp 2] Tryz.func114 rfl rfl rfl rfl rfl ?_
  refine bsplitd (fun h1 => ?_) (fun h1 => ?_)
  · exact ⟨[], ⟨by unfold isLow; rw [decide_eq_true (show 97 ≤ c.toNat by omega), Bool.true_and]; congr 1; rw [decide_eq_decide]; omega, rfl⟩, fun w' h => h.pick [0] rfl rfl⟩
  · exact ⟨[], ⟨by unfold isLow; rw [decide_eq_false (show ¬ 97 ≤ c.toNat by omega)]; rfl, rfl⟩, fun w' h => h.pick [0] rfl rfl⟩
theorem digit35_spec (c : UInt8) (w : World) : CallsE Tryz.prog 115 #[.int .u8 c.toNat] w (RetV w (.bool (isDig c))) := by
  refine enter (X := cx 9) (cxg _) (args := [.int .u8 c.toNat]) [.tmp 2] Tryz.func115 rfl rfl rfl rfl rfl ?_
  refine bsplitd (fun h1 => ?_) (fun h1 => ?_)
  · exact ⟨[], ⟨by unfold isDig; rw [decide_eq_true (show 48 ≤ c.toNat by omega), Bool.true_and]; congr 1; rw [decide_eq_decide]; omega, rfl⟩, fun w' h => h.pick [0] rfl rfl⟩
  · exact ⟨[], ⟨by unfold isDig; rw [decide_eq_false (show ¬ 48 ≤ c.toNat by omega)]; rfl, rfl⟩, fun w' h => h.pick [0] rfl rfl⟩
theorem digits35_spec (s : Byts) (hs : s.length < 1000000000) (w : World) : CallsE Tryz.prog 116 #[.string (bs s)] w (RetV w (.int .i64 (runN isDig s))) := by
  have hz := bs_size s
  refine enter (X := cx 17) (cxg _) (args := [.string (bs s)]) [.tmp 2] Tryz.func116 rfl rfl rfl rfl rfl ?_
  refine NeedL.mk Nat (fun k => [(0, .v (.string (bs s))), (3, .v (.int .i64 k))]) (fun _ => [.hp (Hp.whole w)])
    (fun k => k ≤ s.length ∧ ∀ i, i < k → isDig (s.getD i 0) = true) (fun k => s.length - k) 0 ⟨Nat.zero_le _, fun i hi => absurd hi (Nat.not_lt_zero _)⟩ (Ent.mk (fun _ _ h => h) rfl rfl) ?_
  rintro k ⟨hk, ha⟩
  dsimp only at *
  refine hidWP (fun q' hq' => ?_)
  refine bsplitd (fun h1 => ?_) (fun h1 => ?_)
  · have hk' : k < s.length := by omega
    refine qIdxL (cxg _) rfl rfl k rfl hk' ?_
    refine callV _ (fun w' hm => digit35_spec (s.getD k 0) w') ?_
    refine bsplit (fun h3 => ?_) (fun h3 => ?_)
    · refine nw (by omega) (by omega) ?_
      exact hq' _ _ _ ⟨k + 1, ⟨by omega, fun i hi => by
        rcases Nat.lt_or_ge i k with h | h
        · exact ha i h
        · have : i = k := by omega
          rw [this]; exact h3⟩, by omega, Ent.mk (fun _ _ h => h) rfl rfl⟩
    · exact hq' _ _ _ ⟨[], ⟨by rw [run_next hk ha fun _ => h3], rfl⟩, fun w' h => h.pick [0] rfl rfl⟩
  · exact hq' _ _ _ ⟨[], ⟨by rw [run_next hk ha fun h => absurd h (by omega)], rfl⟩, fun w' h => h.pick [0] rfl rfl⟩
theorem inn_of (c : UInt8) : isInn c = (isLow c || isDig c || decide ((c.toNat : Int) = 45) || decide ((c.toNat : Int) = 95)) := by
  have h1 := byte_eq c 45
  have h2 := byte_eq c 95
  unfold isInn
  rw [← h1, ← h2]; rfl
set_option maxHeartbeats 1000000 in
theorem word35_spec (s : Byts) (hs : s.length < 1000000000) (w : World) : CallsE Tryz.prog 85 #[.string (bs s)] w (RetV w (.int .i64 (worM s))) := by
  have hz := bs_size s
  refine enter (X := cx 39) (cxg _) (args := [.string (bs s)]) [.tmp 2] Tryz.func85 rfl rfl rfl rfl rfl ?_
  refine NeedL.mk Nat (fun k => [(0, .v (.string (bs s))), (3, .v (.int .i64 k))]) (fun _ => [.hp (Hp.whole w)])
    (fun k => k ≤ s.length ∧ (∀ i, i < k → isInn (s.getD i 0) = true) ∧ (0 < k → isLow (s.getD 0 0) = true)) (fun k => s.length - k) 0 ⟨Nat.zero_le _, fun i hi => absurd hi (Nat.not_lt_zero _), fun h => absurd h (Nat.not_lt_zero _)⟩ (Ent.mk (fun _ _ h => h) rfl rfl) ?_
  rintro k ⟨hk, ha, hf⟩
  dsimp only at *
  have hyes : k < s.length → isInn (s.getD k 0) = true → (0 < k ∨ isLow (s.getD k 0) = true) → (k + 1 ≤ s.length ∧ (∀ i, i < k + 1 → isInn (s.getD i 0) = true) ∧ (0 < k + 1 → isLow (s.getD 0 0) = true)) := fun h1 h2 h3 => ⟨h1, fun i hi => by
    rcases Nat.lt_or_ge i k with h | h
    · exact ha i h
    · have : i = k := by omega
      rw [this]; exact h2, fun _ => by
    rcases Nat.eq_zero_or_pos k with h | h
    · subst h
      rcases h3 with h3 | h3
      · cases h3
      · exact h3
    · exact hf h⟩
  have hno : (k < s.length → isLow (s.getD k 0) = false ∧ (0 < k → isInn (s.getD k 0) = false)) → worM s = k := fun h => by
    rcases Nat.eq_zero_or_pos k with h0 | h0
    · subst h0
      unfold worM
      rcases Nat.eq_zero_or_pos s.length with g | g
      · have : s = [] := List.length_eq_zero_iff.1 g
        rw [this]; rfl
      · rw [(h g).1]; rfl
    · unfold worM
      rw [if_pos (hf h0), run_next hk ha fun hl => (h hl).2 h0]
  refine hidWP (fun q' hq' => ?_)
  have hin := inn_of (s.getD k 0)
  generalize hc : s.getD k 0 = c at *
  have hlt : decide ((k : Int) < (bs s).size) = true → k < s.length := fun h => by have := of_decide_eq_true h; omega
  show wops _ _ _ _ _ _
  refine w1k (by rfl) fun K hK => ?_
  refine hK _ _ ?_
  refine w1k (by rfl) fun K hK => ?_
  refine hK _ _ ?_
  refine w1k (by rfl) fun K hK => ?_
  refine hK _ _ ?_
  refine w1k (by rfl) fun K hK => ?_
  refine hK _ _ ?_
  refine w1k (by rfl) fun K hK => ?_
  refine hK _ _ ?_
  refine wGSk (by rfl) (by rfl) (by rfl) (fun h4_ K hK => ?_) (fun h4_ K hK => ?_)
  · refine hK _ _ ?_
    refine wGYk (by rfl) (by rfl) (by rfl) fun K hK => ?_
    refine hK _ _ ?_
    refine wGYk (by rfl) (by rfl) (by rfl) fun K hK => ?_
    refine qIdxL (cxg _) rfl rfl k rfl (hlt h4_) ?_
    rw [hc]
    refine hK _ _ ?_
    refine wGYk (by rfl) (by rfl) (by rfl) fun K hK => ?_
    refine callV _ (fun w' hm => small35_spec c w') ?_
    refine hK _ _ ?_
    refine wGYk (by rfl) (by rfl) (by rfl) fun K hK => ?_
    refine hK _ _ ?_
    refine wGSk (by rfl) (by rfl) (by rfl) (fun h9_ K hK => ?_) (fun h9_ K hK => ?_)
    · refine hK _ _ ?_
      refine wGYk (by rfl) (by rfl) (by rfl) fun K hK => ?_
      refine hK _ _ ?_
      refine wGYk (by rfl) (by rfl) (by rfl) fun K hK => ?_
      refine hK _ _ ?_
      refine wGSk (by rfl) (by rfl) (by rfl) (fun h12_ K hK => ?_) (fun h12_ K hK => ?_)
      · refine hK _ _ ?_
        refine wGYk (by rfl) (by rfl) (by rfl) fun K hK => ?_
        refine hK _ _ ?_
        refine wGYk (by rfl) (by rfl) (by rfl) fun K hK => ?_
        refine qIdxL (cxg _) rfl rfl k rfl (hlt h4_) ?_
        rw [hc]
        refine hK _ _ ?_
        refine wGYk (by rfl) (by rfl) (by rfl) fun K hK => ?_
        refine callV _ (fun w' hm => digit35_spec c w') ?_
        refine hK _ _ ?_
        refine wGYk (by rfl) (by rfl) (by rfl) fun K hK => ?_
        refine hK _ _ ?_
        refine wGSk (by rfl) (by rfl) (by rfl) (fun h17_ K hK => ?_) (fun h17_ K hK => ?_)
        · refine hK _ _ ?_
          refine wGYk (by rfl) (by rfl) (by rfl) fun K hK => ?_
          refine hK _ _ ?_
          refine wGYk (by rfl) (by rfl) (by rfl) fun K hK => ?_
          refine qIdxL (cxg _) rfl rfl k rfl (hlt h4_) ?_
          rw [hc]
          refine hK _ _ ?_
          refine wGYk (by rfl) (by rfl) (by rfl) fun K hK => ?_
          refine hK _ _ ?_
          refine wGYk (by rfl) (by rfl) (by rfl) fun K hK => ?_
          refine hK _ _ ?_
          refine wGYk (by rfl) (by rfl) (by rfl) fun K hK => ?_
          refine hK _ _ ?_
          refine wGSk (by rfl) (by rfl) (by rfl) (fun h23_ K hK => ?_) (fun h23_ K hK => ?_)
          · refine hK _ _ ?_
            refine wGYk (by rfl) (by rfl) (by rfl) fun K hK => ?_
            refine hK _ _ ?_
            refine wGYk (by rfl) (by rfl) (by rfl) fun K hK => ?_
            refine qIdxL (cxg _) rfl rfl k rfl (hlt h4_) ?_
            rw [hc]
            refine hK _ _ ?_
            refine wGYk (by rfl) (by rfl) (by rfl) fun K hK => ?_
            refine hK _ _ ?_
            refine wGYk (by rfl) (by rfl) (by rfl) fun K hK => ?_
            refine hK _ _ ?_
            refine wGYk (by rfl) (by rfl) (by rfl) fun K hK => ?_
            refine hK _ _ ?_
            refine wGYk (by rfl) (by rfl) (by rfl) fun K hK => ?_
            refine hK _ _ ?_
            refine w1k (by rfl) fun K hK => ?_
            refine hK _ _ ?_
            refine wnil ?_
            refine wcond (by rfl) (fun h27_ => ?_) (fun h27_ => ?_)
            · refine nw (by omega) (by omega) ?_
              exact hq' _ _ _ ⟨k + 1, hyes (hlt h4_) (by rw [hin, h27_]; simp) (.inl (by have := of_decide_eq_true h12_; omega)), by have := hlt h4_; omega, Ent.mk (fun _ _ h => h) rfl rfl⟩
            · exact hq' _ _ _ ⟨[], ⟨by rw [hno fun _ => ⟨h9_, fun _ => by rw [hin, h9_, h17_, h23_, h27_]; rfl⟩], rfl⟩, fun w' h => h.pick [0] rfl rfl⟩
          · refine hK _ _ ?_
            refine wGNk (by rfl) (by rfl) (by rfl) fun K hK => ?_
            refine hK _ _ ?_
            refine wGNk (by rfl) (by rfl) (by rfl) fun K hK => ?_
            refine hK _ _ ?_
            refine wGNk (by rfl) (by rfl) (by rfl) fun K hK => ?_
            refine hK _ _ ?_
            refine wGYk (by rfl) (by rfl) (by rfl) fun K hK => ?_
            refine hK _ _ ?_
            refine wGYk (by rfl) (by rfl) (by rfl) fun K hK => ?_
            refine hK _ _ ?_
            refine wGYk (by rfl) (by rfl) (by rfl) fun K hK => ?_
            refine hK _ _ ?_
            refine w1k (by rfl) fun K hK => ?_
            refine hK _ _ ?_
            refine wnil ?_
            refine nw (by omega) (by omega) ?_
            exact hq' _ _ _ ⟨k + 1, hyes (hlt h4_) (by rw [hin, h23_]; simp) (.inl (by have := of_decide_eq_true h12_; omega)), by have := hlt h4_; omega, Ent.mk (fun _ _ h => h) rfl rfl⟩
        · refine hK _ _ ?_
          refine wGNk (by rfl) (by rfl) (by rfl) fun K hK => ?_
          refine hK _ _ ?_
          refine wGNk (by rfl) (by rfl) (by rfl) fun K hK => ?_
          refine hK _ _ ?_
          refine wGNk (by rfl) (by rfl) (by rfl) fun K hK => ?_
          refine hK _ _ ?_
          refine wGYk (by rfl) (by rfl) (by rfl) fun K hK => ?_
          refine hK _ _ ?_
          refine wGYk (by rfl) (by rfl) (by rfl) fun K hK => ?_
          refine hK _ _ ?_
          refine wGNk (by rfl) (by rfl) (by rfl) fun K hK => ?_
          refine hK _ _ ?_
          refine wGNk (by rfl) (by rfl) (by rfl) fun K hK => ?_
          refine hK _ _ ?_
          refine wGNk (by rfl) (by rfl) (by rfl) fun K hK => ?_
          refine hK _ _ ?_
          refine wGNk (by rfl) (by rfl) (by rfl) fun K hK => ?_
          refine hK _ _ ?_
          refine wGYk (by rfl) (by rfl) (by rfl) fun K hK => ?_
          refine hK _ _ ?_
          refine wGYk (by rfl) (by rfl) (by rfl) fun K hK => ?_
          refine hK _ _ ?_
          refine wGYk (by rfl) (by rfl) (by rfl) fun K hK => ?_
          refine hK _ _ ?_
          refine w1k (by rfl) fun K hK => ?_
          refine hK _ _ ?_
          refine wnil ?_
          refine nw (by omega) (by omega) ?_
          exact hq' _ _ _ ⟨k + 1, hyes (hlt h4_) (by rw [hin, h17_]; simp) (.inl (by have := of_decide_eq_true h12_; omega)), by have := hlt h4_; omega, Ent.mk (fun _ _ h => h) rfl rfl⟩
      · refine hK _ _ ?_
        refine wGNk (by rfl) (by rfl) (by rfl) fun K hK => ?_
        refine hK _ _ ?_
        refine wGNk (by rfl) (by rfl) (by rfl) fun K hK => ?_
        refine hK _ _ ?_
        refine wGNk (by rfl) (by rfl) (by rfl) fun K hK => ?_
        refine hK _ _ ?_
        refine wGNk (by rfl) (by rfl) (by rfl) fun K hK => ?_
        refine hK _ _ ?_
        refine wGUk (by rfl) (by rfl) (by rfl) fun K hK => ?_
        refine hK _ _ ?_
        refine wGUk (by rfl) (by rfl) (by rfl) fun K hK => ?_
        refine hK _ _ ?_
        refine wGUk (by rfl) (by rfl) (by rfl) fun K hK => ?_
        refine hK _ _ ?_
        refine wGUk (by rfl) (by rfl) (by rfl) fun K hK => ?_
        refine hK _ _ ?_
        refine wGNk (by rfl) (by rfl) (by rfl) fun K hK => ?_
        refine hK _ _ ?_
        refine wGNk (by rfl) (by rfl) (by rfl) fun K hK => ?_
        refine hK _ _ ?_
        refine wGUk (by rfl) (by rfl) (by rfl) fun K hK => ?_
        refine hK _ _ ?_
        refine wGUk (by rfl) (by rfl) (by rfl) fun K hK => ?_
        refine hK _ _ ?_
        refine wGUk (by rfl) (by rfl) (by rfl) fun K hK => ?_
        refine hK _ _ ?_
        refine wGUk (by rfl) (by rfl) (by rfl) fun K hK => ?_
        refine hK _ _ ?_
        refine wGNk (by rfl) (by rfl) (by rfl) fun K hK => ?_
        refine hK _ _ ?_
        refine wGYk (by rfl) (by rfl) (by rfl) fun K hK => ?_
        refine hK _ _ ?_
        refine wGYk (by rfl) (by rfl) (by rfl) fun K hK => ?_
        refine hK _ _ ?_
        refine w1k (by rfl) fun K hK => ?_
        refine hK _ _ ?_
        refine wnil ?_
        have h12_ := of_decide_eq_false h12_
        exact hq' _ _ _ ⟨[], ⟨by rw [hno fun _ => ⟨h9_, fun g => absurd g (by omega)⟩], rfl⟩, fun w' h => h.pick [0] rfl rfl⟩
    · refine hK _ _ ?_
      refine wGNk (by rfl) (by rfl) (by rfl) fun K hK => ?_
      refine hK _ _ ?_
      refine wGNk (by rfl) (by rfl) (by rfl) fun K hK => ?_
      refine hK _ _ ?_
      refine wGUk (by rfl) (by rfl) (by rfl) fun K hK => ?_
      refine hK _ _ ?_
      refine wGUk (by rfl) (by rfl) (by rfl) fun K hK => ?_
      refine hK _ _ ?_
      refine wGUk (by rfl) (by rfl) (by rfl) fun K hK => ?_
      refine hK _ _ ?_
      refine wGUk (by rfl) (by rfl) (by rfl) fun K hK => ?_
      refine hK _ _ ?_
      refine wGUk (by rfl) (by rfl) (by rfl) fun K hK => ?_
      refine hK _ _ ?_
      refine wGUk (by rfl) (by rfl) (by rfl) fun K hK => ?_
      refine hK _ _ ?_
      refine wGUk (by rfl) (by rfl) (by rfl) fun K hK => ?_
      refine hK _ _ ?_
      refine wGUk (by rfl) (by rfl) (by rfl) fun K hK => ?_
      refine hK _ _ ?_
      refine wGUk (by rfl) (by rfl) (by rfl) fun K hK => ?_
      refine hK _ _ ?_
      refine wGUk (by rfl) (by rfl) (by rfl) fun K hK => ?_
      refine hK _ _ ?_
      refine wGUk (by rfl) (by rfl) (by rfl) fun K hK => ?_
      refine hK _ _ ?_
      refine wGUk (by rfl) (by rfl) (by rfl) fun K hK => ?_
      refine hK _ _ ?_
      refine wGUk (by rfl) (by rfl) (by rfl) fun K hK => ?_
      refine hK _ _ ?_
      refine wGUk (by rfl) (by rfl) (by rfl) fun K hK => ?_
      refine hK _ _ ?_
      refine wGUk (by rfl) (by rfl) (by rfl) fun K hK => ?_
      refine hK _ _ ?_
      refine wGUk (by rfl) (by rfl) (by rfl) fun K hK => ?_
      refine hK _ _ ?_
      refine wGNk (by rfl) (by rfl) (by rfl) fun K hK => ?_
      refine hK _ _ ?_
      refine wGYk (by rfl) (by rfl) (by rfl) fun K hK => ?_
      refine hK _ _ ?_
      refine w1k (by rfl) fun K hK => ?_
      refine hK _ _ ?_
      refine wnil ?_
      refine nw (by omega) (by omega) ?_
      exact hq' _ _ _ ⟨k + 1, hyes (hlt h4_) (by exact low_inn h9_) (.inr h9_), by have := hlt h4_; omega, Ent.mk (fun _ _ h => h) rfl rfl⟩
  · refine hK _ _ ?_
    refine wGNk (by rfl) (by rfl) (by rfl) fun K hK => ?_
    refine hK _ _ ?_
    refine wGNk (by rfl) (by rfl) (by rfl) fun K hK => ?_
    refine hK _ _ ?_
    refine wGNk (by rfl) (by rfl) (by rfl) fun K hK => ?_
    refine hK _ _ ?_
    refine wGNk (by rfl) (by rfl) (by rfl) fun K hK => ?_
    refine hK _ _ ?_
    refine wGUk (by rfl) (by rfl) (by rfl) fun K hK => ?_
    refine hK _ _ ?_
    refine wGUk (by rfl) (by rfl) (by rfl) fun K hK => ?_
    refine hK _ _ ?_
    refine wGUk (by rfl) (by rfl) (by rfl) fun K hK => ?_
    refine hK _ _ ?_
    refine wGUk (by rfl) (by rfl) (by rfl) fun K hK => ?_
    refine hK _ _ ?_
    refine wGUk (by rfl) (by rfl) (by rfl) fun K hK => ?_
    refine hK _ _ ?_
    refine wGUk (by rfl) (by rfl) (by rfl) fun K hK => ?_
    refine hK _ _ ?_
    refine wGUk (by rfl) (by rfl) (by rfl) fun K hK => ?_
    refine hK _ _ ?_
    refine wGUk (by rfl) (by rfl) (by rfl) fun K hK => ?_
    refine hK _ _ ?_
    refine wGUk (by rfl) (by rfl) (by rfl) fun K hK => ?_
    refine hK _ _ ?_
    refine wGUk (by rfl) (by rfl) (by rfl) fun K hK => ?_
    refine hK _ _ ?_
    refine wGUk (by rfl) (by rfl) (by rfl) fun K hK => ?_
    refine hK _ _ ?_
    refine wGUk (by rfl) (by rfl) (by rfl) fun K hK => ?_
    refine hK _ _ ?_
    refine wGUk (by rfl) (by rfl) (by rfl) fun K hK => ?_
    refine hK _ _ ?_
    refine wGUk (by rfl) (by rfl) (by rfl) fun K hK => ?_
    refine hK _ _ ?_
    refine wGUk (by rfl) (by rfl) (by rfl) fun K hK => ?_
    refine hK _ _ ?_
    refine wGUk (by rfl) (by rfl) (by rfl) fun K hK => ?_
    refine hK _ _ ?_
    refine wGUk (by rfl) (by rfl) (by rfl) fun K hK => ?_
    refine hK _ _ ?_
    refine wGUk (by rfl) (by rfl) (by rfl) fun K hK => ?_
    refine hK _ _ ?_
    refine wGUk (by rfl) (by rfl) (by rfl) fun K hK => ?_
    refine hK _ _ ?_
    refine wGUk (by rfl) (by rfl) (by rfl) fun K hK => ?_
    refine hK _ _ ?_
    refine wGNk (by rfl) (by rfl) (by rfl) fun K hK => ?_
    refine hK _ _ ?_
    refine w1k (by rfl) fun K hK => ?_
    refine hK _ _ ?_
    refine wnil ?_
    have h4_ := of_decide_eq_false h4_
    exact hq' _ _ _ ⟨[], ⟨by rw [hno fun hl => absurd hl (by omega)], rfl⟩, fun w' h => h.pick [0] rfl rfl⟩
set_option maxHeartbeats 1000000 in
theorem number35_spec (s : Byts) (hs : s.length < 900000) (w : World) : CallsE Tryz.prog 86 #[.string (bs s)] w (RetV w (.tuple #[.int .i64 (nuM s).1, .int .i64 (nuM s).2])) := by
  have hz := bs_size s
  have hkl := run_le isDig s
  have hml := run_le isDig (s.drop (runN isDig s + 1))
  rw [List.length_drop] at hml
  have hN1 : 0 < runN isDig s → s.getD (runN isDig s) 0 = 47 ∧ runN isDig s < s.length ∧ 0 < runN isDig (s.drop (runN isDig s + 1)) → nuM s = (runN isDig s + 1 + runN isDig (s.drop (runN isDig s + 1)), runN isDig s) := fun h0 h => by unfold nuM; rw [if_neg (by omega)]; unfold numN; dsimp only; rw [if_pos h]
  have hN2 : ¬ (s.getD (runN isDig s) 0 = 47 ∧ runN isDig s < s.length ∧ 0 < runN isDig (s.drop (runN isDig s + 1))) ∨ runN isDig s = 0 → nuM s = (runN isDig s, runN isDig s) := fun h => by
    unfold nuM
    by_cases g : runN isDig s = 0
    · rw [if_pos g, g]
    · rw [if_neg g]; unfold numN; dsimp only; rw [if_neg (h.resolve_right g)]
  have hrun : ∀ w', CallsE Tryz.prog 116 #[.string (bs s)] w' (RetV w' (.int .i64 (runN isDig s))) := fun w' => digits35_spec s (by omega) w'
  have hrun2 : ∀ w', CallsE Tryz.prog 116 #[.string (bs (s.drop (runN isDig s + 1)))] w' (RetV w' (.int .i64 (runN isDig (s.drop (runN isDig s + 1))))) := fun w' => digits35_spec _ (by rw [List.length_drop]; omega) w'
  generalize runN isDig s = k at *
  generalize runN isDig (s.drop (k + 1)) = m at *
  generalize nuM s = N at *
  refine enter (X := cx 36) (cxg _) (args := [.string (bs s)]) [.tmp 2, .tmp 3] Tryz.func86 rfl rfl rfl rfl rfl ?_
  refine callV _ (fun w' hm => hrun w') ?_
  refine bsplitd (fun h1 => ?_) (fun h1 => ?_)
  · have h1 : 0 < k := by omega
    refine bsplitd (fun h2 => ?_) (fun h2 => ?_)
    · have h2 : k < s.length := by omega
      refine qIdxL (cxg _) rfl rfl k rfl h2 ?_
      generalize hc0 : s.getD k 0 = c0 at *
      refine bsplitd (fun h3 => ?_) (fun h3 => ?_)
      · have h3 : c0 = 47 := byte_is (k := 47) rfl h3
        refine nw (by omega) (by omega) ?_
        refine qSub (cxg _) rfl rfl (k + 1) s.length (.inr ⟨_, _, rfl, by omega⟩) (.inl ⟨rfl, rfl⟩) (by omega) (Nat.le_refl _) ?_
        rw [List.take_length]
        refine callV _ (fun w' hm => hrun2 w') ?_
        refine bsplitd (fun h5 => ?_) (fun h5 => ?_)
        · have h5 : 0 < m := by omega
          have hN := hN1 h1 ⟨h3, h2, h5⟩
          refine nw (by omega) (by omega) ?_
          refine nwEq (y := ((k + 1 + m : Nat) : Int)) (by omega) (by omega) (by omega) ?_
          exact ⟨[], ⟨by rw [hN], rfl⟩, fun w' h => h.pick [0] rfl rfl⟩
        · exact ⟨[], ⟨by rw [hN2 (.inl fun g => absurd g.2.2 (by omega))], rfl⟩, fun w' h => h.pick [0] rfl rfl⟩
      · exact ⟨[], ⟨by rw [hN2 (.inl fun g => byte_ne (k := 47) rfl h3 g.1)], rfl⟩, fun w' h => h.pick [0] rfl rfl⟩
    · exact ⟨[], ⟨by rw [hN2 (.inl fun g => absurd g.2.1 (by omega))], rfl⟩, fun w' h => h.pick [0] rfl rfl⟩
  · exact ⟨[], ⟨by rw [hN2 (.inr (by omega))], rfl⟩, fun w' h => h.pick [0] rfl rfl⟩
end Go.Proofs.YtoholjdojdmbkaaGreatDoor
namespace Go.Proofs.YtoholjdojdmbkaaGreatDoor
open Go Go.RowKit Go.Dw
theorem two_any (s : Byts) : twoS.any (fun x => decide (s.take 2 = x)) = true ↔ ∃ x ∈ twoS, s.take 2 = x := by
  rw [List.any_eq_true]
  simp only [decide_eq_true_eq]
theorem symN_none {s : Byts} (h1 : ∀ x ∈ twoS, s.take 2 ≠ x) (h2 : ∀ i, i < 17 → 0 < s.length → s.getD 0 0 ≠ oneS.getD i 0) : symN s = 0 := by
  have e1 : ¬ twoS.any (fun x => decide (s.take 2 = x)) = true := fun h => by
    obtain ⟨x, hx, he⟩ := (two_any s).1 h
    exact h1 x hx he
  unfold symN
  rw [if_neg e1, if_neg]
  rintro ⟨g1, g2⟩
  obtain ⟨i, hi, he⟩ := List.getElem_of_mem g2
  refine h2 i hi (by omega) ?_
  have : oneS.getD i 0 = oneS[i] := by rw [List.getD_eq_getElem?_getD, List.getElem?_eq_getElem hi]; rfl
  rw [this, he]
theorem symN_two {s : Byts} {x : Byts} (hx : x ∈ twoS) (h : s.take 2 = x) : symN s = 2 := by
  unfold symN; rw [if_pos ((two_any s).2 ⟨x, hx, h⟩)]
theorem symN_one {s : Byts} (h1 : ∀ x ∈ twoS, s.take 2 ≠ x) {i : Nat} (hi : i < 17) (h0 : 0 < s.length) (h : s.getD 0 0 = oneS.getD i 0) : symN s = 1 := by
  have e1 : ¬ twoS.any (fun x => decide (s.take 2 = x)) = true := fun h => by
    obtain ⟨x, hx, he⟩ := (two_any s).1 h
    exact h1 x hx he
  have hm : s.getD 0 0 ∈ oneS := by
    rw [h, List.getD_eq_getElem?_getD, List.getElem?_eq_getElem (show i < oneS.length from hi)]
    exact List.getElem_mem _
  unfold symN
  rw [if_neg e1, if_pos ⟨by omega, hm⟩]
theorem two_snoc {s : Byts} {k : Nat} (hk : k < 4) (h : ∀ x ∈ twoS.take k, s.take 2 ≠ x) (h2 : s.take 2 ≠ twoS.getD k []) : ∀ x ∈ twoS.take (k + 1), s.take 2 ≠ x := by
  intro x hx
  rw [List.take_add_one, List.mem_append] at hx
  rcases hx with hx | hx
  · exact h x hx
  · have : twoS[k]? = some (twoS.getD k []) := by
      rw [List.getD_eq_getElem?_getD, List.getElem?_eq_getElem (show k < twoS.length from hk)]; rfl
    rw [this] at hx
    simp only [Option.toList_some, List.mem_singleton] at hx
    rw [hx]; exact h2
set_option maxHeartbeats 1000000 in
theorem symbol35_spec (s : Byts) (hs : s.length < 900000) (w : World) : CallsE Tryz.prog 87 #[.string (bs s)] w (RetV w (.int .i64 (symN s))) := by
  have hz := bs_size s
  refine enter (X := cx 39) (cxg _) (args := [.string (bs s)]) [.tmp 2] Tryz.func87 rfl rfl rfl rfl rfl ?_
  intro b6
  have hS : Sl (encF fS) 1 (Ch.box b6 (twoS.flatMap fS) 9).h (some ⟨b6, 0, none⟩) 4 4 twoS := OwnO.sl (f := fS) (fun _ => rfl) (by decide) (OwnO.ofBox (f := fS) (sz := 1) (T := 9) (b := b6) (fun _ => rfl) twoS rfl rfl (by decide))
  refine NeedL.mk Nat (fun k => [(0, .v (.string (bs s))), (3, .v (.slice (some ⟨b6, 0, none⟩) 4 4)), (4, .v (.int .i64 k))]) (fun _ => [.hp (Hp.whole w), .hp (Ch.box b6 (twoS.flatMap fS) 9).h])
    (fun k => k ≤ 4 ∧ ∀ x ∈ twoS.take k, s.take 2 ≠ x) (fun k => 4 - k) 0 ⟨Nat.zero_le _, fun x hx => absurd hx List.not_mem_nil⟩ (Ent.mk (fun _ _ h => Ok.same (i := 1) (c := .box b6 (twoS.flatMap fS) 9) (d := .hp (Ch.box b6 (twoS.flatMap fS) 9).h) rfl rfl h) rfl rfl) ?_
  rintro k ⟨hk, hno⟩
  dsimp only at *
  refine bsplitd (fun h1 => ?_) (fun h1 => ?_)
  · have hk4 : k < twoS.length := by show k < 4; omega
    have hnx := two_snoc hk4 hno
    have hgk : twoS.getD k [] = twoS[k] := by rw [List.getD_eq_getElem?_getD, List.getElem?_eq_getElem hk4]; rfl
    rw [hgk] at hnx
    have hmem : twoS[k] ∈ twoS := List.getElem_mem _
    have hl2 : twoS[k].length = 2 := by
      have : ∀ x ∈ twoS, x.length = 2 := by decide
      exact this _ hmem
    refine NeedD.by_order (cxg _) (.take 0 <| .take 1 <| .take 2 <| .take 3 <| .take 4 <| .take 5 <| .take 6 <| .take 7 <| .take 8 <| .take 9 <| .take 10 <| .take 11 <| .done) (by kernel_rfl) ?_
    refine bsplitd (fun h2 => ?_) (fun h2 => ?_)
    · have h2 : 2 ≤ s.length := by omega
      refine qSub (cxg _) rfl rfl 0 2 (.inl ⟨rfl, rfl⟩) (.inr ⟨_, _, rfl, rfl⟩) (by omega) h2 ?_
      rw [List.drop_zero]
      refine idx (cxg _) (e := 9) rfl hS k rfl hk4 (fun b9 o9 cs hcs hR hcell => ?_)
      subst hR
      refine ld1 (cxg _) (i := 1) rfl (hcell 0 _ rfl) rfl ?_
      refine qEqL (a := s.take 2) (b := twoS[k]) ?_
      refine bsplitd (fun h3 => ?_) (fun h3 => ?_)
      · exact ⟨[], ⟨by rw [symN_two hmem h3]; rfl, rfl⟩, fun w' h => h.pick [0] rfl rfl⟩
      · refine nw (by omega) (by omega) ?_
        exact ⟨k + 1, ⟨by omega, hnx h3⟩, by omega, Ent.mk (fun _ _ h => h) rfl rfl⟩
    · refine nw (by omega) (by omega) ?_
      exact ⟨k + 1, ⟨by omega, hnx (fun e => by
        have := congrArg List.length e
        rw [List.length_take, hl2] at this; omega)⟩, by omega, Ent.mk (fun _ _ h => h) rfl rfl⟩
  · have hk4 : k = 4 := by omega
    subst hk4
    have hno : ∀ x ∈ twoS, s.take 2 ≠ x := hno
    refine NeedL.mk Nat (fun k => [(0, .v (.string (bs s))), (5, .v (.int .i64 k))]) (fun _ => [.hp (Hp.whole w)])
      (fun k => k ≤ 17 ∧ ∀ i, i < k → 0 < s.length → s.getD 0 0 ≠ oneS.getD i 0) (fun k => 17 - k) 0 ⟨Nat.zero_le _, fun i hi => absurd hi (Nat.not_lt_zero _)⟩ (Ent.mk (fun _ _ h => h.pick [0] rfl rfl) rfl rfl) ?_
    rintro k ⟨hk, hn1⟩
    dsimp only at *
    refine bsplitd (fun h1 => ?_) (fun h1 => ?_)
    · have hk17 : k < 17 := by omega
      refine NeedD.by_order (cxg _) (.take 0 <| .take 1 <| .take 2 <| .take 3 <| .take 4 <| .take 5 <| .take 6 <| .take 7 <| .take 8 <| .take 9 <| .done) (by kernel_rfl) ?_
      refine bsplitd (fun h2 => ?_) (fun h2 => ?_)
      · have h2 : 0 < s.length := by omega
        refine qIdxL (cxg _) rfl rfl 0 rfl h2 ?_
        refine qIdxL (l := oneS) (cxg _) rfl rfl k rfl hk17 ?_
        refine bsplitd (fun h3 => ?_) (fun h3 => ?_)
        · have h3 : s.getD 0 0 = oneS.getD k 0 := byte_is rfl h3
          exact ⟨[], ⟨by rw [symN_one hno hk17 h2 h3]; rfl, rfl⟩, fun w' h => h.pick [0] rfl rfl⟩
        · have h3 : s.getD 0 0 ≠ oneS.getD k 0 := byte_ne rfl h3
          refine nw (by omega) (by omega) ?_
          exact ⟨k + 1, ⟨by omega, fun i hi h0 => by
            rcases Nat.lt_or_ge i k with g | g
            · exact hn1 i g h0
            · have : i = k := by omega
              rw [this]; exact h3⟩, by omega, Ent.mk (fun _ _ h => h) rfl rfl⟩
      · refine nw (by omega) (by omega) ?_
        exact ⟨k + 1, ⟨by omega, fun i hi h0 => absurd h0 (by omega)⟩, by omega, Ent.mk (fun _ _ h => h) rfl rfl⟩
    · exact ⟨[], ⟨by rw [symN_none hno fun i hi => hn1 i (by omega)]; rfl, rfl⟩, fun w' h => h.pick [0] rfl rfl⟩
theorem ord_gt (y : Nat) : (0 < ordZ (intZ false y) (intZ false 1)) ↔ 1 < y := by
  show (0 < if (y : Int) < ((1 : Nat) : Int) then (-1 : Int) else if ((1 : Nat) : Int) < (y : Int) then 1 else 0) ↔ _
  split
  · omega
  · split <;> omega
theorem int_one (m : Nat) : (intI false m).1 = 1 ↔ m = 1 := by
  unfold intI
  rw [if_neg (by decide)]
  split
  · show (m : Int) = 1 ↔ _; omega
  · show (0 : Int) = 1 ↔ _; omega
set_option maxHeartbeats 1000000 in
theorem canonical35_spec {l : Byts} {k : Nat} (h0 : 0 < k) (hk : k ≤ l.length) (hl : l.length ≤ 400) (ha : (l.take k).all isDig = true) (hb : k < l.length → (l.drop (k + 1)).all isDig = true ∧ 0 < (l.drop (k + 1)).length) (w : World) :
    CallsE Tryz.prog 88 #[.string (bs l), .int .i64 k] w (RetV w (.bool (canN l k))) := by
  have hz := bs_size l
  have hlt : (l.take k).length = k := by rw [List.length_take]; omega
  have hld : (l.drop (k + 1)).length = l.length - (k + 1) := List.length_drop
  have hpt : parE (l.take k) = 0 ↔ canD (l.take k) = true := parE_dig ha (by omega) (by omega)
  obtain ⟨hs1, hs2⟩ := sgn_dig ha
  refine enter (X := cx 55) (cxg _) (args := [.string (bs l), .int .i64 k]) [.tmp 4] Tryz.func88 rfl rfl rfl rfl rfl ?_
  refine qSub (cxg _) rfl rfl 0 k (.inl ⟨rfl, rfl⟩) (.inr ⟨_, _, rfl, rfl⟩) (by omega) hk ?_
  rw [List.drop_zero]
  refine call (fun w' hm => intParse_spec (l.take k) (by omega) w') ?_
  rintro _ _ ⟨g, rfl, n1, a1, k1, c1, x, rfl, hM, hp, hzz, hn⟩
  intro b5
  refine bsplitd (fun h1 => ?_) (fun h1 => ?_)
  · have h1 : k = l.length := by omega
    refine ⟨[], ⟨?_, rfl⟩, fun w' h => h.pick [0] rfl rfl⟩
    have : canN l k = canD (l.take k) := by unfold canN; rw [if_pos h1.symm, h1, List.take_length]
    rw [this]
    congr 1
    by_cases hc : canD (l.take k) = true
    · rw [hc, decide_eq_true (hpt.2 hc)]
    · rw [decide_eq_false (fun e => hc (hpt.1 e))]; simpa using hc
  · have h1 : k < l.length := by omega
    have hcn : canN l k = (canD (l.take k) && (canD (l.drop (k + 1)) && (decide (1 < dgV (l.drop (k + 1))) && decide (Nat.gcd (dgV (l.take k)) (dgV (l.drop (k + 1))) = 1)))) := by unfold canN; rw [if_neg (by omega)]
    obtain ⟨hb1, hb2⟩ := hb h1
    have hpb : parE (l.drop (k + 1)) = 0 ↔ canD (l.drop (k + 1)) = true := parE_dig hb1 hb2 (by omega)
    obtain ⟨hs3, hs4⟩ := sgn_dig hb1
    refine bsplitd (fun h2 => ?_) (fun h2 => ?_)
    · have h2 : parE (l.take k) ≠ 0 := h2
      refine ⟨[], ⟨?_, rfl⟩, fun w' h => h.pick [0] rfl rfl⟩
      have hc : canD (l.take k) = false := by
        rcases h : canD (l.take k) with _ | _
        · rfl
        · exact absurd (hpt.2 h) h2
      rw [hcn, hc, decide_eq_false h2]; rfl
    · have h2 : parE (l.take k) = 0 := Classical.byContradiction h2
      obtain ⟨rfl, rfl⟩ := hzz h2
      rw [hs2] at hM
      rw [hpt.1 h2, Bool.true_and] at hcn
      refine nw (by omega) (by omega) ?_
      refine qSub (cxg _) rfl rfl (k + 1) l.length (.inr ⟨_, _, rfl, by omega⟩) (.inl ⟨rfl, rfl⟩) (by omega) (Nat.le_refl _) ?_
      rw [List.take_length]
      refine callS (fun w' hm => intParse_spec (l.drop (k + 1)) (by omega) w') ?_
      rintro _ _ ⟨g2, rfl, n2, a2, k2, c2, y, rfl, hM2, hp2, hz2, hn2⟩ hsat
      have hg2 : g2.le (g.join g2) := hsat.leR 1 3 rfl rfl
      intro b7
      refine call (fun w' hm => gcd_spec w' (Hp.join_in (hm 1 _ rfl) (hm 3 _ rfl)) (hM.mono (Hp.le_left g g2)) (hM2.mono hg2)) ?_
      rintro _ _ ⟨g4, a4, k4, c4, rfl, rfl, hM4⟩
      refine callV _ (fun w' hm => int_spec w' (hM4 _ (Hp.join_in (hm 1 _ rfl) (hm 3 _ rfl)).whole (hm 5 _ rfl).whole)) ?_
      refine NeedD.cut Bool (fun b => [(4, .v (.bool b))]) (fun _ => [.hp (Hp.whole w)]) (fun b => b = canN l k) (NeedD.by_order (cxg _) (.take 0 <| .take 1 <| .take 2 <| .take 3 <| .run 4 <| .run 5 <| .take 6 <| .take 7 <| .take 8 <| .take 9 <| .take 10 <| .take 11 <| .take 12 <| .done) (by kernel_rfl) ?_) ?_
      · refine bsplitd (fun h3 => ?_) (fun h3 => ?_)
        · have h3 : parE (l.drop (k + 1)) = 0 := h3
          obtain ⟨rfl, rfl⟩ := hz2 h3
          rw [hs4, hs3] at *
          refine call (fun w' hm => from_spec 1 (by decide) (by decide) w') ?_
          rintro _ _ ⟨g5, a5, k5, c5, L5, rfl, rfl, hL5, hC5⟩
          refine ⟨(by repeat first | exact trivial | refine ⟨.inl rfl, ?_⟩ | refine ⟨.inr rfl, ?_⟩), ?_⟩
          refine callV _ (fun w' hm => compareM_spec w' (hM2.mono (hm 3 _ rfl).whole) ⟨_, _, _, L5, rfl, hL5.mono (encF_mono _) (hm 6 _ rfl).whole, hC5, by have := hC5.le_len can_one (Nat.le_refl _); simp at this; omega⟩ nofun nofun) ?_
          refine ⟨(by repeat first | exact trivial | refine ⟨.inl rfl, ?_⟩ | refine ⟨.inr rfl, ?_⟩), ?_⟩
          refine bsplitd (fun h4 => ?_) (fun h4 => ?_)
          · have h4 := (ord_gt _).1 h4
            refine ⟨_, ?_, Ent.mk (fun _ _ h => h.pick [0] rfl rfl) rfl rfl⟩
            rw [hcn, hpb.1 h3, decide_eq_true h4, Bool.true_and, Bool.true_and, decide_eq_decide, int_one]
          · have h4 : ¬ 1 < dgV (l.drop (k + 1)) := fun g => h4 ((ord_gt _).2 g)
            refine ⟨_, ?_, Ent.mk (fun _ _ h => h.pick [0] rfl rfl) rfl rfl⟩
            rw [hcn, decide_eq_false h4]; simp
        · have h3 : parE (l.drop (k + 1)) ≠ 0 := h3
          have hc : canD (l.drop (k + 1)) = false := by
            rcases h : canD (l.drop (k + 1)) with _ | _
            · rfl
            · exact absurd (hpb.2 h) h3
          refine ⟨(by repeat first | exact trivial | refine ⟨.inl rfl, ?_⟩ | refine ⟨.inr rfl, ?_⟩), ?_⟩
          refine ⟨(by repeat first | exact trivial | refine ⟨.inl rfl, ?_⟩ | refine ⟨.inr rfl, ?_⟩), ?_⟩
          refine ⟨_, ?_, Ent.mk (fun _ _ h => h.pick [0] rfl rfl) rfl rfl⟩
          rw [hcn, hc]; rfl
      · rintro b rfl _
        exact ⟨[], ⟨rfl, rfl⟩, fun w' h => h.pick [0] rfl rfl⟩
theorem take_one {s : Byts} {i : Nat} (h : i < s.length) : (s.take (i + 1)).drop i = [s.getD i 0] := by
  rw [List.drop_take, show i + 1 - i = 1 by omega, List.drop_eq_getElem_cons h, List.getD_eq_getElem?_getD, List.getElem?_eq_getElem h]; rfl
set_option maxRecDepth 20000 in
set_option maxHeartbeats 1000000 in
theorem quoted35_spec (s : Byts) (hs : s.length < 500000) (w : World) : CallsE Tryz.prog 84 #[.string (bs s)] w (RetV w (trip (textF s))) := by
  have hz := bs_size s
  refine enter (X := cx 90) (cxg _) (args := [.string (bs s)]) [.tmp 2, .tmp 3, .tmp 4] Tryz.func84 rfl rfl rfl rfl rfl ?_
  refine NeedL.mk (Nat × Byts) (fun g => [(0, .v (.string (bs s))), (3, .v (.string (bs g.2))), (5, .v (.int .i64 g.1))]) (fun _ => [.hp (Hp.whole w)])
    (fun g => 1 ≤ g.1 ∧ g.2.length < g.1 ∧ quoF (s.drop g.1) g.1 g.2 = textF s ∧ g.1 ≤ s.length + 1) (fun g => s.length + 1 - g.1) (1, []) ⟨Nat.le_refl _, Nat.zero_lt_one, rfl, by dsimp only; omega⟩ (Ent.mk (fun _ _ h => h) rfl rfl) ?_
  rintro ⟨n, out⟩ ⟨hn1, hol, hq, hnl⟩
  dsimp only at *
  refine hidWP (fun q' hq' => ?_)
  have hzo := bs_size out
  refine bsplitd (fun h1 => ?_) (fun h1 => ?_)
  · have hn : n < s.length := by omega
    rw [drop_at hn, quo_cons, getD_drop, Nat.add_zero, List.drop_drop] at hq
    generalize hd : s.getD (n + 1) 0 = d at *
    refine qIdxL (cxg _) rfl rfl n rfl hn ?_
    generalize hc : s.getD n 0 = c at *
    conv => whnf
    refine bsplitd (fun h3 => ?_) (fun h3 => ?_)
    · have h3 : c ≠ 10 := byte_ne (k := 10) rfl h3
      rw [if_neg h3] at hq
      refine qIdxL (cxg _) rfl rfl n rfl hn ?_
      rw [hc]
      refine bsplitd (fun h5 => ?_) (fun h5 => ?_)
      · have h5 : c = 34 := byte_is (k := 34) rfl h5
        rw [if_pos h5] at hq
        conv => whnf
        refine bsplitd (fun h6 => ?_) (fun h6 => ?_)
        · rw [if_pos (show 4096 < out.length by clear hq; omega)] at hq
          exact hq' _ _ _ ⟨[], ⟨by rw [← hq]; rfl, rfl⟩, fun w' h => h.pick [0] rfl rfl⟩
        · rw [if_neg (show ¬ 4096 < out.length by clear hq; omega)] at hq
          refine qIdxL (cxg _) rfl rfl n rfl hn ?_
          rw [hc]
          refine bsplitd (fun _ => ?_) (fun h7 => absurd h5 (byte_ne (k := 34) rfl h7))
          refine nw (by omega) (by omega) ?_
          exact hq' _ _ _ ⟨[], ⟨by rw [← hq]; rfl, rfl⟩, fun w' h => h.pick [0] rfl rfl⟩
      · have h5 : c ≠ 34 := byte_ne (k := 34) rfl h5
        rw [if_neg h5] at hq
        refine qIdxL (cxg _) rfl rfl n rfl hn ?_
        rw [hc]
        refine bsplitd (fun h19 => absurd (byte_is (k := 34) rfl h19) h5) (fun _ => ?_)
        refine qIdxL (cxg _) rfl rfl n rfl hn ?_
        rw [hc]
        refine bsplitd (fun h20 => ?_) (fun h20 => ?_)
        · rw [if_pos (.inl (by omega))] at hq
          exact hq' _ _ _ ⟨[], ⟨by rw [← hq]; rfl, rfl⟩, fun w' h => h.pick [0] rfl rfl⟩
        · refine qIdxL (cxg _) rfl rfl n rfl hn ?_
          rw [hc]
          refine bsplitd (fun h21 => ?_) (fun h21 => ?_)
          · rw [if_pos (.inr (by omega))] at hq
            exact hq' _ _ _ ⟨[], ⟨by rw [← hq]; rfl, rfl⟩, fun w' h => h.pick [0] rfl rfl⟩
          · rw [if_neg (show ¬ badC c by rintro (g | g) <;> omega)] at hq
            refine qIdxL (cxg _) rfl rfl n rfl hn ?_
            rw [hc]
            refine bsplitd (fun h22 => ?_) (fun h22 => ?_)
            · have h22 : c ≠ 92 := byte_ne (k := 92) rfl h22
              rw [if_neg h22] at hq
              refine nw (by omega) (by omega) ?_
              refine qSub (cxg _) rfl rfl n (n + 1) (.inr ⟨_, _, rfl, rfl⟩) (.inr ⟨_, _, rfl, by omega⟩) (by omega) hn ?_
              rw [take_one hn, hc]
              refine qAdd (ty := 9) (a := out) (b := [c]) (by simp only [List.length_cons, List.length_nil]; omega) ?_
              refine nw (by omega) (by omega) ?_
              exact hq' _ _ _ ⟨(n + 1, out ++ [c]), ⟨by dsimp only; omega, by simp; omega, hq, by dsimp only; omega⟩, by dsimp only; omega, Ent.mk (fun _ _ h => h) rfl rfl⟩
            · have h22 : c = 92 := Classical.byContradiction fun g => h22 fun e => g (byte_is (k := 92) rfl e)
              rw [if_pos h22] at hq
              clear h20 h21 h5 h3 h22
              have hgood : n + 1 < s.length → (d = 34 ∨ d = 92) → quoF (s.drop (n + 2)) (n + 2) (out ++ [d]) = textF s := fun hn2 h => by
                rw [if_pos h] at hq; exact hq
              have hbad : ¬ (d = 34 ∨ d = 92) → ((n, [], 14) : Nat × Byts × Int) = textF s := fun h => by rw [if_neg h] at hq; exact hq
              clear hq
              have hlt : decide (((n : Int) + 1) ≥ (bs s).size) = false → n + 1 < s.length := fun h => by have := of_decide_eq_false h; omega
              show wops _ _ _ _ _ _
              refine w1k (by rfl) fun K hK => ?_
              refine hK _ _ ?_
              refine w1k (by rfl) fun K hK => ?_
              refine nw (by omega) (by omega) ?_
              refine hK _ _ ?_
              refine w1k (by rfl) fun K hK => ?_
              refine hK _ _ ?_
              refine w1k (by rfl) fun K hK => ?_
              refine hK _ _ ?_
              refine w1k (by rfl) fun K hK => ?_
              refine hK _ _ ?_
              refine w1k (by rfl) fun K hK => ?_
              refine hK _ _ ?_
              refine wGSk (by rfl) (by rfl) (by rfl) (fun h5_ K hK => ?_) (fun h5_ K hK => ?_)
              · refine hK _ _ ?_
                refine wGYk (by rfl) (by rfl) (by rfl) fun K hK => ?_
                refine hK _ _ ?_
                refine wGYk (by rfl) (by rfl) (by rfl) fun K hK => ?_
                refine nw (by omega) (by omega) ?_
                refine hK _ _ ?_
                refine wGYk (by rfl) (by rfl) (by rfl) fun K hK => ?_
                refine qIdxL (cxg _) rfl rfl (n + 1) (by omega) (hlt h5_) ?_
                rw [hd]
                refine hK _ _ ?_
                refine wGYk (by rfl) (by rfl) (by rfl) fun K hK => ?_
                refine hK _ _ ?_
                refine wGYk (by rfl) (by rfl) (by rfl) fun K hK => ?_
                refine hK _ _ ?_
                refine wGSk (by rfl) (by rfl) (by rfl) (fun h11_ K hK => ?_) (fun h11_ K hK => ?_)
                · refine hK _ _ ?_
                  refine wGYk (by rfl) (by rfl) (by rfl) fun K hK => ?_
                  refine hK _ _ ?_
                  refine wGYk (by rfl) (by rfl) (by rfl) fun K hK => ?_
                  refine nw (by omega) (by omega) ?_
                  refine hK _ _ ?_
                  refine wGYk (by rfl) (by rfl) (by rfl) fun K hK => ?_
                  refine qIdxL (cxg _) rfl rfl (n + 1) (by omega) (hlt h5_) ?_
                  rw [hd]
                  refine hK _ _ ?_
                  refine wGYk (by rfl) (by rfl) (by rfl) fun K hK => ?_
                  refine hK _ _ ?_
                  refine wGYk (by rfl) (by rfl) (by rfl) fun K hK => ?_
                  refine hK _ _ ?_
                  refine w1k (by rfl) fun K hK => ?_
                  refine hK _ _ ?_
                  refine w1k (by rfl) fun K hK => ?_
                  refine hK _ _ ?_
                  refine wnil ?_
                  have h34 : d ≠ 34 := byte_ne (k := 34) rfl (of_decide_eq_true h11_)
                  refine wcond (by rfl) (fun h16_ => ?_) (fun h16_ => ?_)
                  · have h92 : d ≠ 92 := byte_ne (k := 92) rfl (of_decide_eq_true h16_)
                    exact hq' _ _ _ ⟨[], ⟨by rw [← hbad (fun e => e.elim h34 h92)]; rfl, rfl⟩, fun w' h => h.pick [0] rfl rfl⟩
                  · have h92 : d = 92 := byte_is (k := 92) rfl (Classical.not_not.1 (of_decide_eq_false h16_))
                    refine nw (by omega) (by omega) ?_
                    refine nw (by omega) (by omega) ?_
                    refine qSub (cxg _) rfl rfl (n + 1) (n + 2) (.inr ⟨_, _, rfl, by omega⟩) (.inr ⟨_, _, rfl, by omega⟩) (by omega) (hlt h5_) ?_
                    rw [take_one (hlt h5_), hd]
                    refine qAdd (ty := 9) (a := out) (b := [d]) (by simp only [List.length_cons, List.length_nil]; omega) ?_
                    refine nw (by omega) (by omega) ?_
                    exact hq' _ _ _ ⟨(n + 2, out ++ [d]), ⟨by dsimp only; omega, by simp; omega, hgood (hlt h5_) (.inr h92), by dsimp only; have := hlt h5_; omega⟩, by dsimp only; have := hlt h5_; omega, Ent.mk (fun _ _ h => h) rfl rfl⟩
                · refine hK _ _ ?_
                  refine wGNk (by rfl) (by rfl) (by rfl) fun K hK => ?_
                  refine hK _ _ ?_
                  refine wGNk (by rfl) (by rfl) (by rfl) fun K hK => ?_
                  refine hK _ _ ?_
                  refine wGNk (by rfl) (by rfl) (by rfl) fun K hK => ?_
                  refine hK _ _ ?_
                  refine wGNk (by rfl) (by rfl) (by rfl) fun K hK => ?_
                  refine hK _ _ ?_
                  refine wGYk (by rfl) (by rfl) (by rfl) fun K hK => ?_
                  refine hK _ _ ?_
                  refine w1k (by rfl) fun K hK => ?_
                  refine hK _ _ ?_
                  refine w1k (by rfl) fun K hK => ?_
                  refine hK _ _ ?_
                  refine wnil ?_
                  have h34 : d = 34 := byte_is (k := 34) rfl (Classical.not_not.1 (of_decide_eq_false h11_))
                  refine nw (by omega) (by omega) ?_
                  refine nw (by omega) (by omega) ?_
                  refine qSub (cxg _) rfl rfl (n + 1) (n + 2) (.inr ⟨_, _, rfl, by omega⟩) (.inr ⟨_, _, rfl, by omega⟩) (by omega) (hlt h5_) ?_
                  rw [take_one (hlt h5_), hd]
                  refine qAdd (ty := 9) (a := out) (b := [d]) (by simp only [List.length_cons, List.length_nil]; omega) ?_
                  refine nw (by omega) (by omega) ?_
                  exact hq' _ _ _ ⟨(n + 2, out ++ [d]), ⟨by dsimp only; omega, by simp; omega, hgood (hlt h5_) (.inl h34), by dsimp only; have := hlt h5_; omega⟩, by dsimp only; have := hlt h5_; omega, Ent.mk (fun _ _ h => h) rfl rfl⟩
              · refine hK _ _ ?_
                refine wGNk (by rfl) (by rfl) (by rfl) fun K hK => ?_
                refine hK _ _ ?_
                refine wGNk (by rfl) (by rfl) (by rfl) fun K hK => ?_
                refine hK _ _ ?_
                refine wGNk (by rfl) (by rfl) (by rfl) fun K hK => ?_
                refine hK _ _ ?_
                refine wGNk (by rfl) (by rfl) (by rfl) fun K hK => ?_
                refine hK _ _ ?_
                refine wGNk (by rfl) (by rfl) (by rfl) fun K hK => ?_
                refine hK _ _ ?_
                refine wGUk (by rfl) (by rfl) (by rfl) fun K hK => ?_
                refine hK _ _ ?_
                refine wGUk (by rfl) (by rfl) (by rfl) fun K hK => ?_
                refine hK _ _ ?_
                refine wGUk (by rfl) (by rfl) (by rfl) fun K hK => ?_
                refine hK _ _ ?_
                refine wGUk (by rfl) (by rfl) (by rfl) fun K hK => ?_
                refine hK _ _ ?_
                refine wGUk (by rfl) (by rfl) (by rfl) fun K hK => ?_
                refine hK _ _ ?_
                refine wGNk (by rfl) (by rfl) (by rfl) fun K hK => ?_
                refine hK _ _ ?_
                refine w1k (by rfl) fun K hK => ?_
                refine hK _ _ ?_
                refine w1k (by rfl) fun K hK => ?_
                refine hK _ _ ?_
                refine wnil ?_
                have e : d = 0 := by
                  have h5_ := of_decide_eq_true h5_
                  rw [← hd, List.getD_eq_getElem?_getD, List.getElem?_eq_none (by omega)]; rfl
                exact hq' _ _ _ ⟨[], ⟨by rw [← hbad (by rw [e]; decide)]; rfl, rfl⟩, fun w' h => h.pick [0] rfl rfl⟩
    · have h3 : c = 10 := Classical.byContradiction fun g => h3 fun e => g (byte_is (k := 10) rfl e)
      rw [if_pos h3] at hq
      refine hq' _ _ _ ?_
      exact ⟨[], ⟨by rw [← hq]; rfl, rfl⟩, fun w' h => h.pick [0] rfl rfl⟩
  · rw [List.drop_of_length_le (by omega)] at hq
    refine hq' _ _ _ ?_
    exact ⟨[], ⟨by rw [← hq]; rfl, rfl⟩, fun w' h => h.pick [0] rfl rfl⟩
end Go.Proofs.YtoholjdojdmbkaaGreatDoor
namespace Go.Proofs.YtoholjdojdmbkaaGreatDoor
open Go Go.RowKit Go.Dw
theorem ScI.whole {w : World} {h : Hp} {b k l c : Nat} {s : Byts} (hin : h.In w) (hP : ScI h b s k l c) : ScI (Hp.whole w) b s k l c := by
  unfold ScI at *
  refine ⟨hP.1, ?_⟩
  rcases hP.2 with ⟨h0, _⟩ | ⟨b', arr, e1, hb, rest⟩
  · cases h0
  · exact .inr ⟨b', arr, e1, hin.whole _ _ hb, rest⟩
theorem normD35 {X : Ctx} {ops : List Oper} {Q : Tm → List Ch → Prop} {t : Tm} {s : List Ch} (s2 : List Ch) (hs : s = s2) (h : NeedD X ops Q t s2) : NeedD X ops Q t s := by subst hs; exact h
/-- what token returns -/
def tkV (s : Byts) (k l c : Nat) : Tok := if (tokF (s.drop k)).2.2.2 = 0 then ((tokF (s.drop k)).2.1, (tokF (s.drop k)).2.2.1, l, c) else tok0
theorem num35_canon {u : Byts} (h : 0 < (nuM u).1) (hl : (nuM u).1 ≤ 400) : 0 < (nuM u).2 ∧ (nuM u).2 ≤ (u.take (nuM u).1).length ∧ (u.take (nuM u).1).length ≤ 400 ∧ ((u.take (nuM u).1).take (nuM u).2).all isDig = true ∧
    ((nuM u).2 < (u.take (nuM u).1).length → ((u.take (nuM u).1).drop ((nuM u).2 + 1)).all isDig = true ∧ 0 < ((u.take (nuM u).1).drop ((nuM u).2 + 1)).length) := by
  have hk := run_le7 isDig u
  have ha := run_all7 isDig u
  have hb := run_all7 isDig (u.drop (runN isDig u + 1))
  have hm := run_le7 isDig (u.drop (runN isDig u + 1))
  rw [List.length_drop] at hm
  have hr : 0 < runN isDig u := by
    unfold nuM at h
    rcases Nat.eq_zero_or_pos (runN isDig u) with g | g
    · rw [if_pos g] at h; cases h
    · exact g
  have hn : nuM u = numN u := by unfold nuM; rw [if_neg (by omega)]
  rw [hn] at hl ⊢
  rw [numN_of] at hl ⊢
  by_cases hc : u.getD (runN isDig u) 0 = 47 ∧ runN isDig u < u.length ∧ 0 < runN isDig (u.drop (runN isDig u + 1))
  · rw [if_pos hc] at hl ⊢
    dsimp only at hl ⊢
    have hlt : (u.take (runN isDig u + 1 + runN isDig (u.drop (runN isDig u + 1)))).length = runN isDig u + 1 + runN isDig (u.drop (runN isDig u + 1)) := by rw [List.length_take]; omega
    have e1 : (u.take (runN isDig u + 1 + runN isDig (u.drop (runN isDig u + 1)))).take (runN isDig u) = u.take (runN isDig u) := by rw [List.take_take, Nat.min_eq_left (by omega)]
    have e2 : (u.take (runN isDig u + 1 + runN isDig (u.drop (runN isDig u + 1)))).drop (runN isDig u + 1) = (u.drop (runN isDig u + 1)).take (runN isDig (u.drop (runN isDig u + 1))) := by rw [List.drop_take]; congr 1; omega
    rw [hlt, e1, e2]
    exact ⟨hr, by omega, hl, ha, fun _ => ⟨hb, by rw [List.length_take, List.length_drop]; omega⟩⟩
  · rw [if_neg hc] at hl ⊢
    dsimp only at hl ⊢
    have hlt : (u.take (runN isDig u)).length = runN isDig u := by rw [List.length_take]; omega
    rw [hlt]
    exact ⟨hr, Nat.le_refl _, hl, by rw [List.take_take, Nat.min_self]; exact ha, fun g => absurd g (Nat.lt_irrefl _)⟩
set_option maxRecDepth 20000 in
set_option maxHeartbeats 2000000 in
theorem token35_aux {s u : Byts} {n1 m1 m2 y q1 : Nat} {q2 : Byts} {q3 : Int} {cb : Bool} {tf : Nat × Int × Byts × Int} {tv : Tok} {b k l c : Nat} {h : Hp} (w : World) (hin : h.In w) (hP : ScI h b s k l c) (hk : k < s.length) (_hs : s.length < 100000) (hu : s.drop k = u) (hquo : u.getD 0 0 = 34 → tf = (q1, 3, q2, q3)) (hmod0 : u.getD 0 0 ≠ 34 → tf = if 0 < n1 then (if 40 < n1 then (0, 1, [], 5) else (n1, 1, u.take n1, 0)) else if 0 < m1 then (if 400 < m1 then (0, 2, [], 5) else if cb = true then (m1, 2, u.take m1, 0) else (0, 2, [], 3)) else if y = 0 then (0, 4, [], 14) else (y, 4, u.take y, 0))
    (htv : tv = if tf.2.2.2 = 0 then (tf.2.1, tf.2.2.1, l, c) else tok0)
    (hstep : ∀ (w' : World), h.In w' → CallsE Tryz.prog 83 #[.pointer (some ⟨b, 0, none⟩), .int .i64 tf.1] w' (RetM w' h fun _ h' cs => cs = [] ∧ ScI h' b s (k + tf.1) (pasN (l, c) (u.take tf.1)).1 (pasN (l, c) (u.take tf.1)).2))
    (hu0 : 0 < u.length) (hwl : n1 ≤ u.length) (hml : m1 ≤ u.length) (hyl : y ≤ u.length)
    (hword : ∀ w', CallsE Tryz.prog 85 #[.string (bs u)] w' (RetV w' (.int .i64 n1)))
    (hnum : ∀ w', CallsE Tryz.prog 86 #[.string (bs u)] w' (RetV w' (.tuple #[.int .i64 m1, .int .i64 m2])))
    (hsym : ∀ w', CallsE Tryz.prog 87 #[.string (bs u)] w' (RetV w' (.int .i64 y)))
    (hqt : ∀ w', CallsE Tryz.prog 84 #[.string (bs u)] w' (RetV w' (.tuple #[.int .i64 q1, .string (bs q2), .int .i64 q3])))
    (hcan : 0 < m1 → m1 ≤ 400 → ∀ w', CallsE Tryz.prog 88 #[.string (bs (u.take m1)), .int .i64 m2] w' (RetV w' (.bool cb))) :
    CallsE Tryz.prog 37 #[.pointer (some ⟨b, 0, none⟩)] w (RetM w h fun v h' cs => cs = [] ∧ v = .tuple #[encT tv, .int .i64 tf.2.2.2] ∧ ScI h' b s (k + tf.1) (pasN (l, c) (u.take tf.1)).1 (pasN (l, c) (u.take tf.1)).2) := by
  have hz := bs_size s
  have hzu := bs_size u
  have hP1 := hP
  unfold ScI plcs at hP1
  refine enterM (X := cx 110) (cxg _) (args := [.pointer (some ⟨b, 0, none⟩)]) hin [.cell 2 32, .tmp 3] Tryz.func37 rfl rfl rfl rfl rfl ?_
  intro b2
  refine NeedD.by_order (cxg _) (.take 0 <| .take 1 <| .take 2 <| .take 3 <| .take 4 <| .take 5 <| .take 6 <| .take 7 <| .take 8 <| .run 9 <| .run 10 <| .done) (by kernel_rfl) ?_
  refine old1 (j := 2) (cxg _) (i := 1) rfl hP1 rfl rfl ?_
  refine old1 (j := 3) (cxg _) (i := 1) rfl hP1 rfl rfl ?_
  intro b4
  refine ⟨(by repeat first | exact trivial | refine ⟨.inl rfl, ?_⟩ | refine ⟨.inr rfl, ?_⟩), ?_⟩
  refine normD35 [.hp ((Hp.whole w).minus h), .hp h, .box b2 [.int .i64 0, .string (bs []), .int .i64 0, .int .i64 0] 32, .box b4 [.int .i64 0, .string (bs []), .int .i64 l, .int .i64 c] 32] rfl ?_
  refine NeedD.by_order (cxg _) (.take 0 <| .take 1 <| .take 2 <| .take 3 <| .take 4 <| .take 5 <| .take 6 <| .take 7 <| .take 8 <| .take 9 <| .done) (by kernel_rfl) ?_
  refine old1 (j := 0) (cxg _) (i := 1) rfl hP1 rfl rfl ?_
  refine old1 (j := 1) (cxg _) (i := 1) rfl hP1 rfl rfl ?_
  refine qSub (cxg _) rfl rfl k s.length (.inr ⟨_, _, rfl, rfl⟩) (.inl ⟨rfl, rfl⟩) (by omega) (Nat.le_refl _) ?_
  rw [List.take_length, hu]
  refine qIdxL (cxg _) rfl rfl 0 rfl hu0 ?_
  refine bsplitd (fun h1 => ?_) (fun h1 => ?_)
  · have h1 : u.getD 0 0 = 34 := byte_is (k := 34) rfl h1
    have hx : tf = (q1, 3, q2, q3) := hquo h1
    rw [hx] at hstep
    dsimp only at hstep
    refine callV _ (fun w' hm => hqt w') ?_
    refine hideQ (fun _ kz => kz _ _ ?_)
    refine normS [.hp ((Hp.whole w).minus h), .hp h, .box b2 [.int .i64 0, .string (bs []), .int .i64 0, .int .i64 0] 32, .box b4 [.int .i64 3, .string (bs q2), .int .i64 l, .int .i64 c] 32] rfl ?_
    refine w1k (by rfl) fun K hK => ?_
    refine hK _ _ ?_
    refine w1k (by rfl) fun K hK => ?_
    refine hK _ _ ?_
    refine wnil ?_
    refine wcond (by rfl) (fun h2 => ?_) (fun h2 => ?_)
    · have h2 : q3 ≠ 0 := of_decide_eq_true h2
      refine callM (i := 1) rfl (fun w' hm => hstep w' (hm 1 _ rfl)) ?_
      rintro _ h6 _ ⟨rfl, hQ6⟩
      exact ⟨h6, [], ⟨rfl, by rw [htv, hx]; dsimp only; rw [if_neg h2]; rfl, by rw [hx]; exact hQ6⟩, fun w' h => h.pick [0, 1] rfl rfl⟩
    · have h2 : q3 = 0 := Classical.byContradiction (of_decide_eq_false h2)
      refine callM (i := 1) rfl (fun w' hm => hstep w' (hm 1 _ rfl)) ?_
      rintro _ h6 _ ⟨rfl, hQ6⟩
      exact ⟨h6, [], ⟨rfl, by rw [htv, hx]; dsimp only; rw [h2, if_pos rfl]; rfl, by rw [hx]; exact hQ6⟩, fun w' h => h.pick [0, 1] rfl rfl⟩
  · have h1 : u.getD 0 0 ≠ 34 := byte_ne (k := 34) rfl h1
    have hmod := hmod0 h1
    clear hmod0 hquo
    refine callV _ (fun w' hm => hword w') ?_
    refine bsplitd (fun h2 => ?_) (fun h2 => ?_)
    · have h2 : 0 < n1 := by omega
      rw [if_pos h2] at hmod
      refine hideQ (fun _ kz => kz _ _ ?_)
      refine normS [.hp ((Hp.whole w).minus h), .hp h, .box b2 [.int .i64 0, .string (bs []), .int .i64 0, .int .i64 0] 32, .box b4 [.int .i64 1, .string (bs []), .int .i64 l, .int .i64 c] 32] rfl ?_
      refine bsplitd (fun h3 => absurd h3 (by omega)) (fun _ => ?_)
      refine bsplitd (fun h4 => ?_) (fun h4 => ?_)
      · have hx : tf = (0, 1, [], 5) := by rw [hmod, if_pos (by omega)]
        exact ⟨h, [], ⟨rfl, by rw [htv, hx]; rfl, by rw [hx]; exact hP⟩, fun w' h => h.pick [0, 1] rfl rfl⟩
      · have hx : tf = (n1, 1, u.take (n1), 0) := by rw [hmod, if_neg (by omega)]
        rw [hx] at hstep
        dsimp only at hstep
        refine qSub (cxg _) rfl rfl 0 (n1) (.inl ⟨rfl, rfl⟩) (.inr ⟨_, _, rfl, rfl⟩) (by omega) (by omega) ?_
        rw [List.drop_zero]
        refine hideQ (fun _ kz => kz _ _ ?_)
        refine normS [.hp ((Hp.whole w).minus h), .hp h, .box b2 [.int .i64 0, .string (bs []), .int .i64 0, .int .i64 0] 32, .box b4 [.int .i64 1, .string (bs (u.take n1)), .int .i64 l, .int .i64 c] 32] rfl ?_
        refine callM (i := 1) rfl (fun w' hm => hstep w' (hm 1 _ rfl)) ?_
        rintro _ h6 _ ⟨rfl, hQ6⟩
        exact ⟨h6, [], ⟨rfl, by rw [htv, hx]; rfl, by rw [hx]; exact hQ6⟩, fun w' h => h.pick [0, 1] rfl rfl⟩
    · have h2 : ¬ 0 < n1 := by omega
      rw [if_neg h2] at hmod
      refine callV _ (fun w' hm => hnum w') ?_
      refine bsplitd (fun h3 => ?_) (fun h3 => ?_)
      · have h3 : 0 < m1 := by omega
        rw [if_pos h3] at hmod
        refine hideQ (fun _ kz => kz _ _ ?_)
        refine normS [.hp ((Hp.whole w).minus h), .hp h, .box b2 [.int .i64 0, .string (bs []), .int .i64 0, .int .i64 0] 32, .box b4 [.int .i64 2, .string (bs []), .int .i64 l, .int .i64 c] 32] rfl ?_
        refine bsplitd (fun h4 => absurd h4 (by omega)) (fun _ => ?_)
        refine bsplitd (fun h5 => ?_) (fun h5 => ?_)
        · have hx : tf = (0, 2, [], 5) := by rw [hmod, if_pos (by omega)]
          exact ⟨h, [], ⟨rfl, by rw [htv, hx]; rfl, by rw [hx]; exact hP⟩, fun w' h => h.pick [0, 1] rfl rfl⟩
        · have h5 : ¬ 400 < m1 := by omega
          rw [if_neg h5] at hmod
          refine qSub (cxg _) rfl rfl 0 m1 (.inl ⟨rfl, rfl⟩) (.inr ⟨_, _, rfl, rfl⟩) (by omega) (by omega) ?_
          rw [List.drop_zero]
          refine callV _ (fun w' hm => hcan h3 (by omega) w') ?_
          refine bsplit (fun h6 => ?_) (fun h6 => ?_)
          · have h6 : cb = false := by simpa using h6
            have hx : tf = (0, 2, [], 3) := by rw [hmod, h6]; rfl
            exact ⟨h, [], ⟨rfl, by rw [htv, hx]; rfl, by rw [hx]; exact hP⟩, fun w' h => h.pick [0, 1] rfl rfl⟩
          · have h6 : cb = true := by simpa using h6
            have hx : tf = (m1, 2, u.take m1, 0) := by rw [hmod, if_pos h6]
            rw [hx] at hstep
            dsimp only at hstep
            refine qSub (cxg _) rfl rfl 0 (m1) (.inl ⟨rfl, rfl⟩) (.inr ⟨_, _, rfl, rfl⟩) (by omega) (by omega) ?_
            rw [List.drop_zero]
            refine hideQ (fun _ kz => kz _ _ ?_)
            refine normS [.hp ((Hp.whole w).minus h), .hp h, .box b2 [.int .i64 0, .string (bs []), .int .i64 0, .int .i64 0] 32, .box b4 [.int .i64 2, .string (bs (u.take m1)), .int .i64 l, .int .i64 c] 32] rfl ?_
            refine callM (i := 1) rfl (fun w' hm => hstep w' (hm 1 _ rfl)) ?_
            rintro _ h6 _ ⟨rfl, hQ6⟩
            exact ⟨h6, [], ⟨rfl, by rw [htv, hx]; rfl, by rw [hx]; exact hQ6⟩, fun w' h => h.pick [0, 1] rfl rfl⟩
      · have h3 : ¬ 0 < m1 := by omega
        rw [if_neg h3] at hmod
        refine callV _ (fun w' hm => hsym w') ?_
        refine bsplitd (fun h4 => ?_) (fun h4 => ?_)
        · have hx : tf = (y, 4, u.take (y), 0) := by rw [hmod, if_neg (by omega)]
          rw [hx] at hstep
          dsimp only at hstep
          refine hideQ (fun _ kz => kz _ _ ?_)
          refine normS [.hp ((Hp.whole w).minus h), .hp h, .box b2 [.int .i64 0, .string (bs []), .int .i64 0, .int .i64 0] 32, .box b4 [.int .i64 4, .string (bs []), .int .i64 l, .int .i64 c] 32] rfl ?_
          refine bsplitd (fun h5 => absurd h5 (by omega)) (fun _ => ?_)
          refine qSub (cxg _) rfl rfl 0 (y) (.inl ⟨rfl, rfl⟩) (.inr ⟨_, _, rfl, rfl⟩) (by omega) (by omega) ?_
          rw [List.drop_zero]
          refine hideQ (fun _ kz => kz _ _ ?_)
          refine normS [.hp ((Hp.whole w).minus h), .hp h, .box b2 [.int .i64 0, .string (bs []), .int .i64 0, .int .i64 0] 32, .box b4 [.int .i64 4, .string (bs (u.take y)), .int .i64 l, .int .i64 c] 32] rfl ?_
          refine callM (i := 1) rfl (fun w' hm => hstep w' (hm 1 _ rfl)) ?_
          rintro _ h6 _ ⟨rfl, hQ6⟩
          exact ⟨h6, [], ⟨rfl, by rw [htv, hx]; rfl, by rw [hx]; exact hQ6⟩, fun w' h => h.pick [0, 1] rfl rfl⟩
        · have hx : tf = (0, 4, [], 14) := by rw [hmod, if_pos (by omega)]
          refine bsplitd (fun _ => ?_) (fun h5 => absurd (show ((y : Nat) : Int) = 0 by omega) h5)
          exact ⟨h, [], ⟨rfl, by rw [htv, hx]; rfl, by rw [hx]; exact hP⟩, fun w' h => h.pick [0, 1] rfl rfl⟩
theorem token35_spec {s : Byts} {b k l c : Nat} {h : Hp} (w : World) (hin : h.In w) (hP : ScI h b s k l c) (hk : k < s.length) (hs : s.length < 100000) (hl : l ≤ 2 * k + 1) (hc : c ≤ 2 * k + 1) :
    CallsE Tryz.prog 37 #[.pointer (some ⟨b, 0, none⟩)] w (RetM w h fun v h' cs => cs = [] ∧ v = .tuple #[encT (tkV s k l c), .int .i64 (tokF (s.drop k)).2.2.2] ∧
      ScI h' b s (k + (tokF (s.drop k)).1) (pasN (l, c) ((s.drop k).take (tokF (s.drop k)).1)).1 (pasN (l, c) ((s.drop k).take (tokF (s.drop k)).1)).2) := by
  have hu0 : 0 < (s.drop k).length := by rw [List.length_drop]; omega
  have hul : (s.drop k).length < 100000 := by rw [List.length_drop]; omega
  have hnl := tok_le (s.drop k) hu0
  rw [List.length_drop] at hnl
  have hwl : worM (s.drop k) ≤ (s.drop k).length := by
    unfold worM; split
    · exact run_le7 _ _
    · exact Nat.zero_le _
  have hml : (nuM (s.drop k)).1 ≤ (s.drop k).length := by
    unfold nuM; split
    · exact Nat.zero_le _
    · exact num_le7 _
  have hyl : symN (s.drop k) ≤ (s.drop k).length := by
    by_cases h0 : symN (s.drop k) = 0
    · omega
    · exact sym_le7 h0
  exact token35_aux (n1 := worM (s.drop k)) (m1 := (nuM (s.drop k)).1) (m2 := (nuM (s.drop k)).2) (y := symN (s.drop k)) (q1 := (textF (s.drop k)).1) (q2 := (textF (s.drop k)).2.1) (q3 := (textF (s.drop k)).2.2) (cb := canN ((s.drop k).take (nuM (s.drop k)).1) (nuM (s.drop k)).2) w hin hP hk hs rfl (fun h => tok_quote h) (fun h => tok_model hu0 h) rfl (fun w' hi => step_spec w' hi hP (by omega) (by omega) (by omega) (by omega)) hu0 hwl hml hyl (fun w' => word35_spec _ (by omega) w') (fun w' => number35_spec _ (by omega) w') (fun w' => symbol35_spec _ (by omega) w') (fun w' => quoted35_spec _ (by omega) w')
    (fun h0 h4 w' => by
      obtain ⟨c1, c2, c3, c4, c5⟩ := num35_canon h0 h4
      exact canonical35_spec c1 c2 c3 c4 c5 w')
end Go.Proofs.YtoholjdojdmbkaaGreatDoor
namespace Go.Dw
open Go Go.RowKit
/-- a chunk becomes a part of itself -/
theorem Ok.sub {w0 w : World} {s : List Ch} {i : Nat} {c d : Ch} (hi : sget s i = some c) (hd : d.h.le c.h) (hok : Ok w0 s w) : Ok w0 (sset s i d) w := by
  refine ⟨hok.os, hok.tape, hok.output, hok.size, hok.drawn, fun k x hx => ?_, fun j k x y hjk h1 h2 => ?_⟩
  · rw [sget_put hi] at hx
    split at hx
    · cases hx; exact fun a o e => hok.mem i c hi a o (hd a o e)
    · exact hok.mem k x hx
  · rw [sget_put hi] at h1 h2
    have hl : ∀ {h k : Hp}, c.h.dj h → d.h.dj h := fun g a => by
      rcases g a with g | g
      · refine .inl ?_
        cases e : d.h a with
        | none => rfl
        | some o => rw [hd a o e] at g; cases g
      · exact .inr g
    split at h1 <;> split at h2
    · omega
    · cases h1; exact hl (k := Hp.emp) (hok.disj _ _ _ _ (by omega) hi h2)
    · cases h2
      exact (hl (k := Hp.emp) ((hok.disj _ _ _ _ (by omega) h1 hi).symm)).symm
    · exact hok.disj _ _ _ _ hjk h1 h2
theorem Own.box_le {T sz b : Nat} {h : Hp} {xs : List Value} (hO : Own T sz h (some ⟨b, 0, none⟩) 1 1 xs) : (Ch.box b xs T).h.le h := by
  rcases hO.2 with ⟨h0, _⟩ | ⟨b', arr, e1, hb, _, _, hcs, htk⟩
  · cases h0
  · cases e1
    have : arr.toList = xs := by
      rw [← htk, List.take_of_length_le (by simp [hcs])]
    intro a o e
    simp only [Ch.h, Hp.one] at e
    split at e
    · rename_i g
      subst g
      cases e
      rw [hb, ← this]
    · cases e
/-- a call that changes a box -/
theorem callMB {P : Program} {s : List Ch} {f : Nat} {args : List Value} {q : TV → List Ch → Prop} {i : Nat} {b T : Nat} {cs : List Value} (hi : sget s i = some (.box b cs T)) {R : Value → List Value → Prop}
    (hc : ∀ w0 w, Ok w0 s w → CallsE P f args.toArray w (RetM w (Ch.box b cs T).h fun v h' cs2 => cs2 = [] ∧ ∃ cs', (Ch.box b cs' T).h.le h' ∧ R v cs'))
    (k : ∀ v cs', R v cs' → q (.v v) (sset s i (.box b cs' T))) : NeedF P s f args q := by
  refine ⟨fun w0 w hok => ⟨(hc w0 w hok).1, (hc w0 w hok).2.mono fun e w' he => ?_⟩⟩
  obtain ⟨v, h', cs2, rfl, h1, rfl, cs', hle, hR⟩ := he
  have hok1 : Ok w0 (sset s i (.hp (Ch.box b cs T).h)) w := Ok.same (d := .hp (Ch.box b cs T).h) hi rfl hok
  have hi1 : sget (sset s i (.hp (Ch.box b cs T).h)) i = some (.hp (Ch.box b cs T).h) := by rw [sget_put hi, if_pos rfl]
  have hok3 := hok1.callM hi1 h1
  rw [List.append_nil] at hok3
  have hi3 : sget (sset (sset s i (.hp (Ch.box b cs T).h)) i (.hp h')) i = some (.hp h') := by rw [sget_put hi1, if_pos rfl]
  have hok4 := Ok.sub hi3 (d := .box b cs' T) hle hok3
  have e : sset (sset (sset s i (.hp (Ch.box b cs T).h)) i (.hp h')) i (.box b cs' T) = sset s i (.box b cs' T) := by simp only [sset_eq, List.set_set]
  rw [e] at hok4
  exact ⟨v, _, rfl, hok4, Keep.set hi (fun b' cs0 T' e => by cases e; exact ⟨_, _, rfl⟩), k v cs' hR⟩
end Go.Dw
namespace Go.Proofs.YtoholjdojdmbkaaGreatDoor
open Go Go.RowKit Go.Dw
theorem ScI.new (b : Nat) (s : Byts) (k l c : Nat) : ScI (Ch.box b (plcs s k l c) 74).h b s k l c := by
  have := OwnO.ofBox (f := fun _ : Unit => plcs s k l c) (sz := 4) (T := 74) (b := b) (fun _ => rfl) [()] rfl rfl (by decide)
  exact this.2
theorem blanksB {s : Byts} {b k0 l0 c0 : Nat} (w : World) (hin : (Ch.box b (plcs s k0 l0 c0) 74).h.In w) (hk : k0 ≤ s.length) (hs : s.length < 1000000) (hl : l0 ≤ 2 * k0 + 1) (hc : c0 ≤ 2 * k0 + 1) :
    CallsE Tryz.prog 36 #[.pointer (some ⟨b, 0, none⟩)] w (RetM w (Ch.box b (plcs s k0 l0 c0) 74).h fun _ h' cs2 => cs2 = [] ∧ ∃ cs', (Ch.box b cs' 74).h.le h' ∧ ∃ k l c, cs' = plcs s k l c ∧ BlE s k0 l0 c0 k l c ∧ (k < s.length → tokB (s.getD k 0))) := by
  have := blanks_spec w hin (ScI.new b s k0 l0 c0) hk hs hl hc
  refine ⟨this.1, this.2.mono fun e w' he => ?_⟩
  obtain ⟨v, h', cs, rfl, h1, rfl, k, l, c, h2, h3, h4⟩ := he
  exact ⟨v, h', [], rfl, h1, rfl, _, Own.box_le h2, k, l, c, rfl, h3, h4⟩
theorem tokenB {s : Byts} {b k l c : Nat} (w : World) (hin : (Ch.box b (plcs s k l c) 74).h.In w) (hk : k < s.length) (hs : s.length < 100000) (hl : l ≤ 2 * k + 1) (hc : c ≤ 2 * k + 1) :
    CallsE Tryz.prog 37 #[.pointer (some ⟨b, 0, none⟩)] w (RetM w (Ch.box b (plcs s k l c) 74).h fun v h' cs2 => cs2 = [] ∧ ∃ cs', (Ch.box b cs' 74).h.le h' ∧ v = .tuple #[encT (tkV s k l c), .int .i64 (tokF (s.drop k)).2.2.2] ∧
      cs' = plcs s (k + (tokF (s.drop k)).1) (pasN (l, c) ((s.drop k).take (tokF (s.drop k)).1)).1 (pasN (l, c) ((s.drop k).take (tokF (s.drop k)).1)).2) := by
  have := token35_spec w hin (ScI.new b s k l c) hk hs hl hc
  refine ⟨this.1, this.2.mono fun e w' he => ?_⟩
  obtain ⟨v, h', cs, rfl, h1, rfl, rfl, h3⟩ := he
  exact ⟨_, h', [], rfl, h1, rfl, _, Own.box_le h3, rfl, rfl⟩
set_option maxRecDepth 20000 in
set_option maxHeartbeats 1000000 in
theorem scan35_spec (s : Byts) (hs : s.length < 100000) (w : World) : CallsE Tryz.prog 16 #[.string (bs s)] w (Ret w fun v cs => ∃ o : Dw.Os, v = .tuple #[o.v, .int .i64 (scaF s).2.1, .int .i64 (scaF s).2.2.1, .int .i64 (scaF s).2.2.2] ∧ cs = [.hp o.h] ∧ OwnO fT 32 4 o (scaF s).1) := by
  have hz := bs_size s
  obtain ⟨R, hR0⟩ : ∃ R, R = scaF s := ⟨_, rfl⟩
  rw [← hR0]
  refine enter (X := cx 59) (cxg _) (args := [.string (bs s)]) [.tmp 2, .tmp 3, .tmp 4, .tmp 5] Tryz.func16 rfl rfl rfl rfl rfl ?_
  refine bsplitd (fun h1 => ?_) (fun h1 => ?_)
  · have e : R = ([], 1, 1, 5) := by rw [hR0]; unfold scaF; rw [if_pos (by omega)]
    rw [e]
    exact ⟨[.hp Hp.emp], ⟨Os.nil, rfl, rfl, OwnO.nil _ _ _⟩, fun w' h => Ok.emp (s := [.hp (Hp.whole w)]) (h.pick [0] rfl rfl)⟩
  have hR1 : R = scR s 0 (1, 1) [] := by rw [hR0, scaF_scR (by omega)]
  clear hR0
  intro b15
  refine callMB (i := 1) rfl (fun w0 w' hok => blanksB (s := s) (k0 := 0) (l0 := 1) (c0 := 1) w' (hok.mem 1 _ rfl) (Nat.zero_le _) (by omega) (by decide) (by decide)) ?_
  rintro _ _ ⟨k1, l1, c1, rfl, hB1, ht1⟩
  refine NeedL.mk ((Nat × Nat × Nat) × Dw.Os × List Tok) (fun g => [(0, .v (.string (bs s))), (6, .bx 1 0), (7, .v g.2.1.v)])
    (fun g => [.hp (Hp.whole w), .box b15 (plcs s g.1.1 g.1.2.1 g.1.2.2) 74, .hp g.2.1.h])
    (fun g => (g.1.1 ≤ s.length ∧ g.1.2.1 ≤ 2 * g.1.1 + 1 ∧ g.1.2.2 ≤ 2 * g.1.1 + 1) ∧ g.2.2.length ≤ g.1.1 ∧ R = scR s g.1.1 (g.1.2.1, g.1.2.2) g.2.2 ∧ (g.1.1 < s.length → tokB (s.getD g.1.1 0)) ∧ OwnO fT 32 4 g.2.1 g.2.2) (fun g => s.length - g.1.1)
    ((k1, l1, c1), Os.nil, []) ⟨⟨hB1.fb, hB1.fl, hB1.fc⟩, Nat.zero_le _, by dsimp only; rw [hR1]; exact hB1.fr [], ht1, OwnO.nil _ _ _⟩ (Ent.mk (fun _ _ h => h.emp) rfl rfl) ?_
  rintro ⟨⟨k, l, c⟩, o, L⟩ ⟨⟨hk, hl, hc⟩, hLk, hR, ht, hO⟩
  dsimp only at *
  refine bsplitd (fun h2 => ?_) (fun h2 => ?_)
  · have h2 : k < s.length := by omega
    have ht := ht h2
    have hst := scR_tok h2 ht (l, c) L
    have hft := tok_fit h2 ht
    have hnl := tok_le (s.drop k) (by rw [List.length_drop]; omega)
    rw [List.length_drop] at hnl
    obtain ⟨n, kd, tx, e, hte⟩ : ∃ n kd tx e, tokF (s.drop k) = (n, kd, tx, e) := ⟨_, _, _, _, rfl⟩
    have htv : tkV s k l c = if e = 0 then (kd, tx, l, c) else tok0 := by unfold tkV; rw [hte]
    have htB := fun w' hi => tokenB (b := b15) w' hi h2 hs hl hc
    rw [hte] at hst hft hnl htB
    dsimp only at hst hft hnl htB
    have hpb := pasN_le (l, c) ((s.drop k).take n)
    rw [List.length_take, List.length_drop] at hpb
    dsimp only at hpb
    generalize hpp : pasN (l, c) ((s.drop k).take n) = pp at *
    obtain ⟨l2, c2⟩ := pp
    dsimp only at hst hpb htB
    generalize tkV s k l c = tv at *
    refine callMB (i := 1) rfl (fun w0 w' hok => htB w' (hok.mem 1 _ rfl)) ?_
    rintro _ _ ⟨rfl, rfl⟩
    intro b8
    refine bsplitd (fun h3 => ?_) (fun h3 => ?_)
    · have h3 : e ≠ 0 := h3
      rw [if_pos h3] at hst
      rw [hst] at hR
      rw [hR]
      refine NeedD.by_order (cxg _) (.take 0 <| .take 1 <| .take 2 <| .take 3 <| .take 4 <| .take 5 <| .take 6 <| .take 7 <| .take 8 <| .take 9 <| .take 10 <| .take 11 <| .take 12 <| .done) (by kernel_rfl) ?_
      exact ⟨[.hp Hp.emp], ⟨Os.nil, rfl, rfl, OwnO.nil _ _ _⟩, fun w' h => Ok.emp (s := [.hp (Hp.whole w)]) (h.pick [0] rfl rfl)⟩
    · have h3 : e = 0 := Classical.byContradiction h3
      subst h3
      rw [if_neg (fun g => g rfl)] at hst
      rw [if_pos rfl] at htv
      subst htv
      have hn := hft rfl
      rw [hst] at hR
      intro b45
      refine appO (f := fT) (cxg _) (e := 32) rfl (i := 2) rfl hO (j := 4) (kd, tx, l, c) rfl rfl rfl rfl (by omega) (fun o' ho' => ?_)
      refine callMB (i := 1) rfl (fun w0 w' hok => blanksB (s := s) (k0 := k + n) (l0 := l2) (c0 := c2) w' (hok.mem 1 _ rfl) (by omega) (by omega) (by omega) (by omega)) ?_
      rintro _ _ ⟨k3, l3, c3, rfl, hB3, ht3⟩
      have hfa := hB3.fa
      have hfr := hB3.fr (L ++ [(kd, tx, l, c)])
      refine ⟨((k3, l3, c3), o', L ++ [(kd, tx, l, c)]), ⟨⟨hB3.fb, hB3.fl, hB3.fc⟩, by simp; omega, by dsimp only; rw [hR]; exact hfr, ht3, ho'⟩, by dsimp only; omega, Ent.mk (fun _ _ h => h.pick [0, 1, 2] rfl rfl) rfl rfl⟩
  · have hend := scR_end (s := s) (k := k) (by omega) (l, c) L
    rw [hend] at hR
    rw [hR]
    dsimp only
    refine NeedD.by_order0 (cxg _) (.take 0 <| .take 1 <| .take 2 <| .take 3 <| .take 4 <| .take 5 <| .take 6 <| .take 7 <| .take 8 <| .take 9 <| .run 10 <| .run 11 <| .run 12 <| .run 13 <| .run 14 <| .run 15 <| .done) (by kernel_rfl) (subL_blank _ 2) ?_
    intro b57
    refine ⟨(by repeat first | exact trivial | refine ⟨.inl rfl, ?_⟩ | refine ⟨.inr rfl, ?_⟩), ?_⟩
    refine appO (f := fT) (cxg _) (e := 32) rfl (i := 2) rfl hO (j := 3) (5, [], l, c) rfl rfl rfl rfl (by omega) (fun o' ho' => ?_)
    refine ⟨(by repeat first | exact trivial | refine ⟨.inl rfl, ?_⟩ | refine ⟨.inr rfl, ?_⟩), ?_⟩
    exact ⟨[.hp o'.h], ⟨o', rfl, rfl, ho'⟩, fun w' h => h.pick [0, 2] rfl rfl⟩
end Go.Proofs.YtoholjdojdmbkaaGreatDoor
namespace Go.Proofs.YtoholjdojdmbkaaGreatDoor
open Go Go.RowKit Go.Dw
set_option maxHeartbeats 1000000 in
theorem same35_spec {L1 L2 : List Tok} {a1 a2 : Option Addr} {n1 c1 n2 c2 : Nat} (w : World) (h1 : Sl (encF fT) 4 (Hp.whole w) a1 n1 c1 L1) (h2 : Sl (encF fT) 4 (Hp.whole w) a2 n2 c2 L2) (hl : L1.length < 1000000) :
    CallsE Tryz.prog 15 #[.slice a1 n1 c1, .slice a2 n2 c2] w (RetV w (.bool (decide (L1 = L2)))) := by
  have hn1 := h1.len
  have hn2 := h2.len
  refine enter (X := cx 26) (cxg _) (args := [.slice a1 n1 c1, .slice a2 n2 c2]) [.tmp 4] Tryz.func15 rfl rfl rfl rfl rfl ?_
  refine bsplitd (fun h3 => ?_) (fun h3 => ?_)
  · exact ⟨[], ⟨by rw [decide_eq_false (fun e => h3 (by rw [hn1, hn2, e]))], rfl⟩, fun w' h => h.pick [0] rfl rfl⟩
  · have hll : L1.length = L2.length := by omega
    refine NeedL.mk Nat (fun k => [(0, .v (.slice a1 n1 c1)), (1, .v (.slice a2 n2 c2)), (5, .v (.int .i64 k))]) (fun _ => [.hp (Hp.whole w)])
      (fun k => k ≤ L1.length ∧ ∀ i (hi : i < L1.length) (hj : i < L2.length), i < k → L1[i] = L2[i]) (fun k => L1.length - k) 0 ⟨Nat.zero_le _, fun i _ _ hk => absurd hk (Nat.not_lt_zero _)⟩ (Ent.mk (fun _ _ h => h) rfl rfl) ?_
    rintro k ⟨hk, ha⟩
    dsimp only at *
    refine hidWP (fun q' hq' => ?_)
    refine bsplitd (fun h4 => ?_) (fun h4 => ?_)
    · have hk1 : k < L1.length := by omega
      have hk2 : k < L2.length := by omega
      refine NeedD.by_order (cxg _) (.take 0 <| .take 1 <| .take 2 <| .take 3 <| .take 4 <| .take 5 <| .take 6 <| .take 7 <| .take 8 <| .done) (by kernel_rfl) ?_
      refine idx (cxg _) (e := 32) rfl h1 k rfl hk1 (fun b9 o9 cs hcs hR hcell => ?_)
      subst hR
      refine ldn (cxg _) (i := 0) rfl hcell rfl ?_
      refine idx (cxg _) (e := 32) rfl h2 k rfl hk2 (fun b9 o9 cs hcs hR hcell => ?_)
      subst hR
      refine ldn (cxg _) (i := 0) rfl hcell rfl ?_
      refine qTokNe (a := L1[k]) (b := L2[k]) ?_
      refine bsplitd (fun h5 => ?_) (fun h5 => ?_)
      · refine hq' _ _ _ ?_
        exact ⟨[], ⟨by rw [decide_eq_false (fun e => h5 (by subst e; rfl))], rfl⟩, fun w' h => h.pick [0] rfl rfl⟩
      · have h5 : L1[k] = L2[k] := Classical.not_not.1 h5
        refine nw (by omega) (by omega) ?_
        refine hq' _ _ _ ?_
        exact ⟨k + 1, ⟨by omega, fun i hi hj hik => by
          rcases Nat.lt_or_ge i k with g | g
          · exact ha i hi hj g
          · have : i = k := by omega
            subst this; exact h5⟩, by omega, Ent.mk (fun _ _ h => h) rfl rfl⟩
    · refine hq' _ _ _ ?_
      have : L1 = L2 := List.ext_getElem hll fun i hi hj => ha i hi hj (by omega)
      exact ⟨[], ⟨by rw [decide_eq_true this], rfl⟩, fun w' h => h.pick [0] rfl rfl⟩
theorem sca_len (s : Byts) : (scaF s).1.length ≤ s.length + 2 := by
  unfold scaF
  split
  · exact Nat.zero_le _
  · rw [← col_emi]
    have h := emi_len (s.length + 1) s (1, 1)
    have : ∀ (xs : List El) (out : List Tok), (colF xs out).1.length ≤ out.length + xs.length := by
      intro xs
      induction xs with
      | nil => intro out; exact Nat.le_refl _
      | cons x xs ih =>
        intro out
        unfold colF
        split
        · exact Nat.zero_le _
        · have := ih (out ++ [x.1])
          rw [List.length_append, List.length_singleton] at this
          rw [List.length_cons]; omega
    have := this (emi (s.length + 1) s (1, 1)) []
    rw [List.length_nil] at this
    omega
set_option maxRecDepth 20000 in
set_option maxHeartbeats 1000000 in
theorem scans_ok (s : Byts) (w : World) (hT : TabS (Hp.whole w)) : CallsE Tryz.prog 5 #[.string (bs s)] w (RetV w (.bool true)) := by
  have hz := bs_size s
  refine enter (X := cx 51) (cxg _) (args := [.string (bs s)]) [.tmp 2] Tryz.func5 rfl rfl rfl rfl rfl ?_
  refine callV _ (fun w' hm => known35_spec w' (hT.mono (hm 0 _ rfl).whole)) ?_
  refine bsplitd (fun h1 => ?_) (fun h1 => ?_)
  · refine callV _ (fun w' hm => known35_spec w' (hT.mono (hm 0 _ rfl).whole)) ?_
    exact ⟨[], ⟨rfl, rfl⟩, fun w' h => h.pick [0] rfl rfl⟩
  · have hs : s.length ≤ 500 := by omega
    have hlen := sca_len s
    have hA := fun (w' : World) (hT : TabS (Hp.whole w')) => Scan_spec s w' hT
    have hB := fun (w' : World) => scan35_spec s (by omega) w'
    generalize scaF s = R at *
    obtain ⟨L, x, y, e⟩ := R
    dsimp only at hA hB hlen
    refine call (fun w' hm => hA w' (hT.mono (hm 0 _ rfl).whole)) ?_
    rintro _ _ ⟨⟨a1, n1, c1, g1⟩, rfl, rfl, hO1⟩
    have hS1 := OwnO.sl (f := fT) (fun _ => rfl) (by decide) hO1
    refine hideQ (fun _ kz => kz _ _ ?_)
    refine normS [.hp (Hp.whole w), .hp g1] rfl ?_
    refine call (fun w' hm => hB w') ?_
    rintro _ _ ⟨⟨a2, n2, c2, g2⟩, rfl, rfl, hO2⟩
    have hS2 := OwnO.sl (f := fT) (fun _ => rfl) (by decide) hO2
    refine hideQ (fun _ kz => kz _ _ ?_)
    refine normS [.hp (Hp.whole w), .hp g1, .hp g2] rfl ?_
    show wops _ _ _ _ _ _
    refine w1k (by rfl) fun K hK => ?_
    refine hK _ _ ?_
    refine w1k (by rfl) fun K hK => ?_
    refine hK _ _ ?_
    refine w1k (by rfl) fun K hK => ?_
    refine callV _ (fun w' hm => same35_spec w' (hS1.mono (encF_mono _) (hm 1 _ rfl).whole) (hS2.mono (encF_mono _) (hm 2 _ rfl).whole) (by omega)) ?_
    refine hK _ _ ?_
    refine w1k (by rfl) fun K hK => ?_
    refine hK _ _ ?_
    refine wGSk (by rfl) (by rfl) (by rfl) (fun h3_ K hK => ?_) (fun h3_ K hK => ?_)
    · refine hK _ _ ?_
      refine wGYk (by rfl) (by rfl) (by rfl) fun K hK => ?_
      refine hK _ _ ?_
      refine wGYk (by rfl) (by rfl) (by rfl) fun K hK => ?_
      refine hK _ _ ?_
      refine w1k (by rfl) fun K hK => ?_
      refine hK _ _ ?_
      refine w1k (by rfl) fun K hK => ?_
      refine hK _ _ ?_
      refine wGSk (by rfl) (by rfl) (by rfl) (fun h8_ K hK => ?_) (fun h8_ K hK => ?_)
      · refine hK _ _ ?_
        refine wGYk (by rfl) (by rfl) (by rfl) fun K hK => ?_
        refine hK _ _ ?_
        refine wGYk (by rfl) (by rfl) (by rfl) fun K hK => ?_
        refine hK _ _ ?_
        refine w1k (by rfl) fun K hK => ?_
        refine hK _ _ ?_
        refine w1k (by rfl) fun K hK => ?_
        refine hK _ _ ?_
        refine wGSk (by rfl) (by rfl) (by rfl) (fun h13_ K hK => ?_) (fun h13_ K hK => ?_)
        · refine hK _ _ ?_
          refine wGYk (by rfl) (by rfl) (by rfl) fun K hK => ?_
          refine hK _ _ ?_
          refine wGYk (by rfl) (by rfl) (by rfl) fun K hK => ?_
          refine hK _ _ ?_
          refine w1k (by rfl) fun K hK => ?_
          refine hK _ _ ?_
          refine w1k (by rfl) fun K hK => ?_
          refine hK _ _ ?_
          refine wnil ?_
          exact ⟨[], ⟨by rw [decide_eq_true rfl], rfl⟩, fun w' h => h.pick [0] rfl rfl⟩
        · exact absurd rfl (of_decide_eq_false h13_)
      · exact absurd rfl (of_decide_eq_false h8_)
    · exact absurd rfl (of_decide_eq_false h3_)
end Go.Proofs.YtoholjdojdmbkaaGreatDoor
