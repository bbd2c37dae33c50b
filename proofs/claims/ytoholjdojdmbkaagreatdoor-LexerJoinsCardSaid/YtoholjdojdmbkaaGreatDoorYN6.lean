/- Contract of Join. Each theorem's premises are its own. -/
import Derived.Test.YtoholjdojdmbkaaGreatDoorYN5
namespace Go.Proofs.YtoholjdojdmbkaaGreatDoor
open Go Go.RowKit Go.Dw
theorem join_joinB : ∀ L : List Byts, Lib.join L [32] = joinB L
  | [] => rfl
  | [x] => by show List.intercalate [32] [x] = x; simp [List.intercalate]
  | x :: y :: r => by
    have ih := join_joinB (y :: r)
    unfold Lib.join at ih ⊢
    rw [joinB_cons, if_neg (by simp), ← ih]
    simp [List.intercalate, List.intersperse]
theorem joinB_le {m : Nat} : ∀ (L : List Byts), (∀ x ∈ L, x.length ≤ m) → (joinB L).length ≤ L.length * (m + 1)
  | [], _ => Nat.zero_le _
  | x :: L, h => by
    have ih := joinB_le L fun y hy => h y (List.mem_cons_of_mem _ hy)
    have hx := h x (by simp)
    rw [joinB_cons, List.length_append, List.length_cons, Nat.succ_mul]
    split
    · simp only [List.length_nil]; omega
    · rw [List.length_cons]; omega
def keptZ (l : List TokZ) : List TokZ := l.filter fun t => !decide (t.1 = 5)
theorem keptZ_kz (l : List TokZ) : (keptZ l).map kz = keptK (l.map kz) := by
  unfold keptZ keptK
  induction l with
  | nil => rfl
  | cons t l ih =>
    rw [List.map_cons, List.filter_cons, List.filter_cons]
    by_cases h : t.1 = 5
    · rw [if_neg (by simp [h]), if_neg (by simp [kz, h])]; exact ih
    · rw [if_pos (by simp [h]), if_pos (by simp [kz, h]), List.map_cons, ih]
theorem keptZ_take {M : List TokZ} {i : Nat} (h : i < M.length) : keptZ (M.take (i + 1)) = keptZ (M.take i) ++ (if M[i].1 = 5 then [] else [M[i]]) := by
  unfold keptZ
  rw [List.take_add_one, List.getElem?_eq_getElem h, List.filter_append]
  congr 1
  by_cases h5 : M[i].1 = 5
  · rw [if_pos h5]; simp [h5]
  · rw [if_neg h5]; simp [h5]
def wdZ (l : List TokZ) : List Byts := (l.map kz).map kxF
theorem wdZ_snoc (l : List TokZ) (t : TokZ) : wdZ (l ++ [t]) = wdZ l ++ [txF t.1 t.2.1] := by unfold wdZ; rw [List.map_append, List.map_append]; rfl
theorem wdZ_len (l : List TokZ) : (wdZ l).length = l.length := by unfold wdZ; simp
theorem kept_le (l : List TokZ) : (keptZ l).length ≤ l.length := List.length_filter_le _ _
theorem bad_any {M : List TokZ} {i : Nat} (h : i < M.length) (h3 : M[i].1 = 3) (hb : M[i].2.1.any unpB = true) : jonK (M.map kz) = ([], 3) := by
  unfold jonK
  rw [if_pos]
  rw [List.any_eq_true]
  refine ⟨kz M[i], ?_, ?_⟩
  · unfold keptK
    rw [List.mem_filter]
    refine ⟨List.mem_map_of_mem (List.getElem_mem h), ?_⟩
    show (!decide (M[i].1 = 5)) = true
    rw [h3]; rfl
  · show (decide (M[i].1 = 3) && M[i].2.1.any fun c => decide (badC c)) = true
    rw [h3, decide_eq_true rfl, Bool.true_and]
    rw [List.any_eq_true] at hb ⊢
    obtain ⟨c, hc, h⟩ := hb
    exact ⟨c, hc, by rw [← unp_iff]; exact h⟩
theorem joinNil_spec {a : Option Addr} {c : Nat} (sep : ByteArray) (w : World) : CallsE Tryz.prog 57 #[.slice a 0 c, .string sep] w (RetV w (.string (bs []))) := by
  refine enter (X := cx 75) (cxg _) (args := [.slice a 0 c, .string sep]) [.tmp 4] Tryz.func57 rfl rfl rfl rfl rfl ?_
  exact ⟨[], ⟨rfl, rfl⟩, fun w' h => h.pick [0] rfl rfl⟩
theorem joinW_spec {o : Dw.Os} {L : List Byts} (w : World) (hin : o.h.In w) (ho : OwnO fS 9 1 o L) (hl : L.length ≤ 400) (hx : ∀ x ∈ L, x.length ≤ 1000) : CallsE Tryz.prog 57 #[o.v, .string (bs [32])] w (RetV w (.string (bs (joinB L)))) := by
  have hjl := joinB_le L hx
  by_cases h0 : L.length = 0
  · have hn := ho.len
    have : L = [] := List.eq_nil_of_length_eq_zero h0
    subst this
    obtain ⟨a, n, c, h⟩ := o
    have hn : n = 0 := hn
    subst hn
    exact joinNil_spec _ w
  · have := joinS_spec w [32] hin ho (by omega) (by omega) (by rw [join_joinB]; have := Nat.mul_le_mul_right 1001 hl; omega)
    rw [join_joinB] at this
    exact this
set_option maxRecDepth 20000 in
set_option maxHeartbeats 2000000 in
theorem Join_spec {M : List TokZ} {a : Option Addr} {n c : Nat} (hM : ∀ t ∈ M, t.2.1.length ≤ 400) (hn4 : M.length ≤ 400) (w : World) (hT : TabS (Hp.whole w)) (hL : Sl (encF fTz) 4 (Hp.whole w) a n c M) :
    CallsE Tryz.prog 32 #[.slice a n c] w (RetV w (.tuple #[.string (bs (jonK (M.map kz)).1), .int .i64 (jonK (M.map kz)).2])) := by
  have hn := hL.len
  refine enter (X := cx 69) (cxg _) (args := [.slice a n c]) [.tmp 2, .tmp 3] Tryz.func32 rfl rfl rfl rfl rfl ?_
  refine NeedL.mk (Nat × Dw.Os × Dw.Os) (fun g => [(4, .v g.2.1.v), (5, .v g.2.2.v), (16, .v (.slice a n c)), (17, .v (.int .i64 n)), (18, .v (.int .i64 g.1))]) (fun g => [.hp (Hp.whole w), .hp g.2.1.h, .hp g.2.2.h])
    (fun g => g.1 ≤ M.length ∧ OwnO fS 9 1 g.2.1 (wdZ (keptZ (M.take g.1))) ∧ OwnO fTz 32 4 g.2.2 (keptZ (M.take g.1)) ∧ ((keptZ (M.take g.1)).map kz).any badK = false) (fun g => M.length - g.1)
    (0, Os.nil, Os.nil) ⟨Nat.zero_le _, OwnO.nil _ _ _, OwnO.nil _ _ _, rfl⟩ (Ent.mk (fun _ _ h => h.emp.emp) rfl rfl) ?_
  rintro ⟨i, oW, oK⟩ ⟨hi, hW, hK, hbd⟩
  dsimp only at hi hW hK hbd ⊢
  refine hidWP (fun q' hq' => ?_)
  refine bsplitd (fun h1 => ?_) (fun h1 => ?_)
  · have hi1 : i < M.length := by omega
    have htk := keptZ_take hi1
    have hMi := hM M[i] (List.getElem_mem hi1)
    have hba := fun h3 hb => bad_any hi1 h3 hb
    refine idx (cxg _) (e := 32) rfl hL i rfl hi1 (fun b9 o9 cs hcs hR hcell => ?_)
    subst hR
    refine ldn (cxg _) (i := 0) rfl hcell rfl ?_
    obtain ⟨t, ht⟩ : ∃ t, t = M[i] := ⟨_, rfl⟩
    rw [← ht] at htk hMi hba ⊢
    clear hcell hcs
    obtain ⟨kd, tx, l1, c1⟩ := t
    dsimp only at htk hMi hba
    intro b7
    refine bsplitd (fun h2 => ?_) (fun h2 => ?_)
    · have h2 : kd = 5 := h2
      rw [if_pos h2, List.append_nil] at htk
      refine nw (by omega) (by omega) ?_
      exact hq' _ _ _ ⟨(i + 1, oW, oK), ⟨hi1, by dsimp only; rw [htk]; exact hW, by dsimp only; rw [htk]; exact hK, by dsimp only; rw [htk]; exact hbd⟩, by dsimp only; omega, Ent.mk (fun _ _ h => h.pick [0, 1, 2] rfl rfl) rfl rfl⟩
    have h2 : ¬ kd = 5 := h2
    rw [if_neg h2] at htk
    obtain ⟨X, hX⟩ : ∃ X, X = txF kd tx := ⟨_, rfl⟩
    have hWn : wdZ (keptZ (M.take (i + 1))) = wdZ (keptZ (M.take i)) ++ [X] := by rw [htk, wdZ_snoc, hX]
    have hkl := kept_le (M.take i)
    rw [List.length_take] at hkl
    have hwl := wdZ_len (keptZ (M.take i))
    have hbad : badK (kd, tx) = false → ((keptZ (M.take (i + 1))).map kz).any badK = false := fun h => by
      rw [htk, List.map_append, List.any_append, hbd]
      show (badK (kd, tx) || false) = false
      rw [h]; rfl
    have hgo : badK (kd, tx) = false → ∀ s b, Ent [(4, .v oW.v), (5, .v oK.v), (7, .bx 3 0), (8, .v (.string (bs X))), (16, .v (.slice a n c)), (17, .v (.int .i64 n)), (18, .v (.int .i64 i))] [.hp (Hp.whole w), .hp oW.h, .hp oK.h, .box b (fTz (kd, tx, l1, c1)) 32] s [] → True := fun _ _ _ _ => trivial
    clear hgo
    refine bsplitd (fun h3 => ?_) (fun h3 => ?_)
    · have h3 : kd = 3 := h3
      have hXq : X = quoteF tx := by rw [hX]; unfold txF; rw [if_pos h3]
      have hQs := fun (w' : World) => Quote_spec tx (by omega) w'
      by_cases hb : tx.any unpB = true
      · have e : quoR tx = ([], 14) := by unfold quoR; rw [if_neg (by omega), if_pos hb]
        rw [e] at hQs
        dsimp only at hQs
        refine callV _ (fun w' hm => hQs w') ?_
        refine hq' _ _ _ ?_
        exact ⟨[], ⟨by rw [hba h3 hb]; rfl, rfl⟩, fun w' h => h.pick [0] rfl rfl⟩
      · have e : quoR tx = (X, 0) := by rw [hXq]; unfold quoR; rw [if_neg (by omega), if_neg hb]
        rw [e] at hQs
        dsimp only at hQs
        have hbt : badK (kd, tx) = false := by
          have g : tx.any unpB = false := by simpa using hb
          have g2 : (tx.any fun c => decide (badC c)) = tx.any unpB := by congr 1; funext c; exact (unp_iff c).symm
          unfold badK; rw [g2, g, Bool.and_false]
        refine callV _ (fun w' hm => hQs w') ?_
        refine NeedD.cut (Dw.Os × Dw.Os) (fun g => [(4, .v g.1.v), (5, .v g.2.v), (16, .v (.slice a n c)), (17, .v (.int .i64 n)), (18, .v (.int .i64 i))]) (fun g => [.hp (Hp.whole w), .hp g.1.h, .hp g.2.h]) (fun g => OwnO fS 9 1 g.1 (wdZ (keptZ (M.take (i + 1)))) ∧ OwnO fTz 32 4 g.2 (keptZ (M.take (i + 1)))) (NeedD.by_order0 (cxg _) (.take 0 <| .take 1 <| .take 4 <| .take 5 <| .two 2 (.two 3 (.run 6 <| .run 7 <| .run 8 <| .run 9 <| .done) 6 (.run 3 <| .run 7 <| .run 8 <| .run 9 <| .done)) 6 (.run 2 <| .run 3 <| .run 7 <| .run 8 <| .run 9 <| .done)) (by kernel_rfl) (s0 := [.hp (Hp.whole w), .hp Hp.emp, .hp Hp.emp, .box b7 (fTz (kd, tx, l1, c1)) 32]) ((by repeat first | exact trivial | refine ⟨.inl rfl, ?_⟩ | refine ⟨.inr rfl, ?_⟩)) ?_) ?_
        · refine ⟨?_, ?_⟩
          · intro b40
            refine ⟨(by repeat first | exact trivial | refine ⟨.inl rfl, ?_⟩ | refine ⟨.inr rfl, ?_⟩), ?_⟩
            refine ⟨?_, ?_⟩
            · refine appO (f := fS) (cxg _) (e := 9) rfl (i := 1) rfl hW (j := 4) X rfl rfl rfl rfl (by omega) (fun oW2 hW2 => ?_)
              refine ⟨(by repeat first | exact trivial | refine ⟨.inl rfl, ?_⟩ | refine ⟨.inr rfl, ?_⟩), ?_⟩
              intro b44
              refine ⟨(by repeat first | exact trivial | refine ⟨.inl rfl, ?_⟩ | refine ⟨.inr rfl, ?_⟩), ?_⟩
              refine appO (f := fTz) (cxg _) (e := 32) rfl (i := 2) rfl hK (j := 5) (kd, tx, l1, c1) rfl rfl rfl rfl (by omega) (fun oK2 hK2 => ?_)
              refine ⟨(by repeat first | exact trivial | refine ⟨.inl rfl, ?_⟩ | refine ⟨.inr rfl, ?_⟩), ?_⟩
              refine ⟨(by repeat first | exact trivial | refine ⟨.inl rfl, ?_⟩ | refine ⟨.inr rfl, ?_⟩), ?_⟩
              exact ⟨(oW2, oK2), ⟨by dsimp only; rw [hWn]; exact hW2, by dsimp only; rw [htk]; exact hK2⟩, Ent.mk (fun _ _ h => h.pick [0, 1, 2] rfl rfl) rfl rfl⟩
            · intro b44
              refine ⟨(by repeat first | exact trivial | refine ⟨.inl rfl, ?_⟩ | refine ⟨.inr rfl, ?_⟩), ?_⟩
              refine appO (f := fS) (cxg _) (e := 9) rfl (i := 1) rfl hW (j := 4) X rfl rfl rfl rfl (by omega) (fun oW2 hW2 => ?_)
              refine ⟨(by repeat first | exact trivial | refine ⟨.inl rfl, ?_⟩ | refine ⟨.inr rfl, ?_⟩), ?_⟩
              refine appO (f := fTz) (cxg _) (e := 32) rfl (i := 2) rfl hK (j := 5) (kd, tx, l1, c1) rfl rfl rfl rfl (by omega) (fun oK2 hK2 => ?_)
              refine ⟨(by repeat first | exact trivial | refine ⟨.inl rfl, ?_⟩ | refine ⟨.inr rfl, ?_⟩), ?_⟩
              refine ⟨(by repeat first | exact trivial | refine ⟨.inl rfl, ?_⟩ | refine ⟨.inr rfl, ?_⟩), ?_⟩
              exact ⟨(oW2, oK2), ⟨by dsimp only; rw [hWn]; exact hW2, by dsimp only; rw [htk]; exact hK2⟩, Ent.mk (fun _ _ h => h.pick [0, 1, 2] rfl rfl) rfl rfl⟩
          · intro b44
            refine ⟨(by repeat first | exact trivial | refine ⟨.inl rfl, ?_⟩ | refine ⟨.inr rfl, ?_⟩), ?_⟩
            intro b40
            refine ⟨(by repeat first | exact trivial | refine ⟨.inl rfl, ?_⟩ | refine ⟨.inr rfl, ?_⟩), ?_⟩
            refine appO (f := fS) (cxg _) (e := 9) rfl (i := 1) rfl hW (j := 5) X rfl rfl rfl rfl (by omega) (fun oW2 hW2 => ?_)
            refine ⟨(by repeat first | exact trivial | refine ⟨.inl rfl, ?_⟩ | refine ⟨.inr rfl, ?_⟩), ?_⟩
            refine appO (f := fTz) (cxg _) (e := 32) rfl (i := 2) rfl hK (j := 4) (kd, tx, l1, c1) rfl rfl rfl rfl (by omega) (fun oK2 hK2 => ?_)
            refine ⟨(by repeat first | exact trivial | refine ⟨.inl rfl, ?_⟩ | refine ⟨.inr rfl, ?_⟩), ?_⟩
            refine ⟨(by repeat first | exact trivial | refine ⟨.inl rfl, ?_⟩ | refine ⟨.inr rfl, ?_⟩), ?_⟩
            exact ⟨(oW2, oK2), ⟨by dsimp only; rw [hWn]; exact hW2, by dsimp only; rw [htk]; exact hK2⟩, Ent.mk (fun _ _ h => h.pick [0, 1, 2] rfl rfl) rfl rfl⟩
        · rintro ⟨oW2, oK2⟩ ⟨hW2, hK2⟩ -
          refine nw (by omega) (by omega) ?_
          exact hq' _ _ _ ⟨(i + 1, oW2, oK2), ⟨hi1, hW2, hK2, hbad (hbt)⟩, by dsimp only; omega, Ent.mk (fun _ _ h => h) rfl rfl⟩
    · have h3 : ¬ kd = 3 := h3
      have hXq : X = tx := by rw [hX]; unfold txF; rw [if_neg h3]
      have hbt : badK (kd, tx) = false := by unfold badK; rw [decide_eq_false h3, Bool.false_and]
      rw [hXq] at hWn
      clear hXq hX
      refine NeedD.cut (Dw.Os × Dw.Os) (fun g => [(4, .v g.1.v), (5, .v g.2.v), (16, .v (.slice a n c)), (17, .v (.int .i64 n)), (18, .v (.int .i64 i))]) (fun g => [.hp (Hp.whole w), .hp g.1.h, .hp g.2.h]) (fun g => OwnO fS 9 1 g.1 (wdZ (keptZ (M.take (i + 1)))) ∧ OwnO fTz 32 4 g.2 (keptZ (M.take (i + 1)))) (NeedD.by_order0 (cxg _) (.take 0 <| .take 1 <| .take 4 <| .take 5 <| .two 2 (.two 3 (.run 6 <| .run 7 <| .run 8 <| .run 9 <| .done) 6 (.run 3 <| .run 7 <| .run 8 <| .run 9 <| .done)) 6 (.run 2 <| .run 3 <| .run 7 <| .run 8 <| .run 9 <| .done)) (by kernel_rfl) (s0 := [.hp (Hp.whole w), .hp Hp.emp, .hp Hp.emp, .box b7 (fTz (kd, tx, l1, c1)) 32]) ((by repeat first | exact trivial | refine ⟨.inl rfl, ?_⟩ | refine ⟨.inr rfl, ?_⟩)) ?_) ?_
      · refine ⟨?_, ?_⟩
        · intro b40
          refine ⟨(by repeat first | exact trivial | refine ⟨.inl rfl, ?_⟩ | refine ⟨.inr rfl, ?_⟩), ?_⟩
          refine ⟨?_, ?_⟩
          · refine appO (f := fS) (cxg _) (e := 9) rfl (i := 1) rfl hW (j := 4) tx rfl rfl rfl rfl (by omega) (fun oW2 hW2 => ?_)
            refine ⟨(by repeat first | exact trivial | refine ⟨.inl rfl, ?_⟩ | refine ⟨.inr rfl, ?_⟩), ?_⟩
            intro b44
            refine ⟨(by repeat first | exact trivial | refine ⟨.inl rfl, ?_⟩ | refine ⟨.inr rfl, ?_⟩), ?_⟩
            refine appO (f := fTz) (cxg _) (e := 32) rfl (i := 2) rfl hK (j := 5) (kd, tx, l1, c1) rfl rfl rfl rfl (by omega) (fun oK2 hK2 => ?_)
            refine ⟨(by repeat first | exact trivial | refine ⟨.inl rfl, ?_⟩ | refine ⟨.inr rfl, ?_⟩), ?_⟩
            refine ⟨(by repeat first | exact trivial | refine ⟨.inl rfl, ?_⟩ | refine ⟨.inr rfl, ?_⟩), ?_⟩
            exact ⟨(oW2, oK2), ⟨by dsimp only; rw [hWn]; exact hW2, by dsimp only; rw [htk]; exact hK2⟩, Ent.mk (fun _ _ h => h.pick [0, 1, 2] rfl rfl) rfl rfl⟩
          · intro b44
            refine ⟨(by repeat first | exact trivial | refine ⟨.inl rfl, ?_⟩ | refine ⟨.inr rfl, ?_⟩), ?_⟩
            refine appO (f := fS) (cxg _) (e := 9) rfl (i := 1) rfl hW (j := 4) tx rfl rfl rfl rfl (by omega) (fun oW2 hW2 => ?_)
            refine ⟨(by repeat first | exact trivial | refine ⟨.inl rfl, ?_⟩ | refine ⟨.inr rfl, ?_⟩), ?_⟩
            refine appO (f := fTz) (cxg _) (e := 32) rfl (i := 2) rfl hK (j := 5) (kd, tx, l1, c1) rfl rfl rfl rfl (by omega) (fun oK2 hK2 => ?_)
            refine ⟨(by repeat first | exact trivial | refine ⟨.inl rfl, ?_⟩ | refine ⟨.inr rfl, ?_⟩), ?_⟩
            refine ⟨(by repeat first | exact trivial | refine ⟨.inl rfl, ?_⟩ | refine ⟨.inr rfl, ?_⟩), ?_⟩
            exact ⟨(oW2, oK2), ⟨by dsimp only; rw [hWn]; exact hW2, by dsimp only; rw [htk]; exact hK2⟩, Ent.mk (fun _ _ h => h.pick [0, 1, 2] rfl rfl) rfl rfl⟩
        · intro b44
          refine ⟨(by repeat first | exact trivial | refine ⟨.inl rfl, ?_⟩ | refine ⟨.inr rfl, ?_⟩), ?_⟩
          intro b40
          refine ⟨(by repeat first | exact trivial | refine ⟨.inl rfl, ?_⟩ | refine ⟨.inr rfl, ?_⟩), ?_⟩
          refine appO (f := fS) (cxg _) (e := 9) rfl (i := 1) rfl hW (j := 5) tx rfl rfl rfl rfl (by omega) (fun oW2 hW2 => ?_)
          refine ⟨(by repeat first | exact trivial | refine ⟨.inl rfl, ?_⟩ | refine ⟨.inr rfl, ?_⟩), ?_⟩
          refine appO (f := fTz) (cxg _) (e := 32) rfl (i := 2) rfl hK (j := 4) (kd, tx, l1, c1) rfl rfl rfl rfl (by omega) (fun oK2 hK2 => ?_)
          refine ⟨(by repeat first | exact trivial | refine ⟨.inl rfl, ?_⟩ | refine ⟨.inr rfl, ?_⟩), ?_⟩
          refine ⟨(by repeat first | exact trivial | refine ⟨.inl rfl, ?_⟩ | refine ⟨.inr rfl, ?_⟩), ?_⟩
          exact ⟨(oW2, oK2), ⟨by dsimp only; rw [hWn]; exact hW2, by dsimp only; rw [htk]; exact hK2⟩, Ent.mk (fun _ _ h => h.pick [0, 1, 2] rfl rfl) rfl rfl⟩
      · rintro ⟨oW2, oK2⟩ ⟨hW2, hK2⟩ -
        refine nw (by omega) (by omega) ?_
        exact hq' _ _ _ ⟨(i + 1, oW2, oK2), ⟨hi1, hW2, hK2, hbad (hbt)⟩, by dsimp only; omega, Ent.mk (fun _ _ h => h) rfl rfl⟩
  · have hi2 : i = M.length := by omega
    subst hi2
    rw [List.take_length] at hW hK hbd
    have hJ : jonK (M.map kz) = if (scaF (joinB (wdZ (keptZ M)))).2.2.2 = 0 ∧ (scaF (joinB (wdZ (keptZ M)))).1.dropLast.map ktF = (keptZ M).map kz then (joinB (wdZ (keptZ M)), 0) else ([], 3) := by
      unfold jonK
      rw [← keptZ_kz, if_neg (by rw [hbd]; decide)]
      rfl
    have hkl := kept_le M
    have hwl := wdZ_len (keptZ M)
    have hwx : ∀ x ∈ wdZ (keptZ M), x.length ≤ 1000 := by
      intro x hx
      unfold wdZ at hx
      rw [List.map_map] at hx
      obtain ⟨y, hy, rfl⟩ := List.mem_map.1 hx
      have hy2 : y ∈ M := (List.mem_filter.1 hy).1
      have hyl := hM y hy2
      have hel := esc_len y.2.1
      show (txF y.1 y.2.1).length ≤ 1000
      unfold txF
      split
      · show (escF y.2.1 ++ [34]).length + 1 ≤ 1000
        rw [List.length_append]; simp only [List.length_singleton]; omega
      · omega
    have hdl : ∀ L : List Tok, L.take (L.length - 1) = L.dropLast := fun L => (List.dropLast_eq_take).symm
    generalize wdZ (keptZ M) = Ws at *
    generalize keptZ M = Kp at *
    have hen := sca_shape (joinB Ws)
    have hsl := sca_len (joinB Ws)
    have hjl := joinB_le Ws hwx
    have hjl2 := Nat.mul_le_mul_right 1001 (show Ws.length ≤ 400 by omega)
    have hSc := fun (w' : World) (hm : (Hp.whole w).In w') => Scan_spec (joinB Ws) w' (hT.mono hm.whole)
    generalize scaF (joinB Ws) = T at *
    obtain ⟨L, f1, f2, f⟩ := T
    dsimp only at hSc hen hJ hsl
    refine hq' _ _ _ ?_
    refine callV _ (fun w' hm => joinW_spec w' (hm 1 _ rfl) hW (by omega) hwx) ?_
    refine call (fun w' hm => hSc w' (hm 0 _ rfl)) ?_
    rintro _ _ ⟨oL, rfl, rfl, hoL⟩
    have hLn := hoL.len
    have hcap : oL.n ≤ oL.c := hoL.2.cap
    have hKo := hK
    refine hideQ (fun _ kzz => kzz _ _ ?_)
    refine normS [.hp (Hp.whole w), .hp oW.h, .hp oK.h, .hp oL.h] rfl ?_
    show wops _ _ _ _ _ _
    refine w1k (by rfl) fun K hK => ?_
    refine hK _ _ ?_
    refine w1k (by rfl) fun K hK => ?_
    refine hK _ _ ?_
    refine w1k (by rfl) fun K hK => ?_
    refine hK _ _ ?_
    refine wGSk (by rfl) (by rfl) (by rfl) (fun h2_ K hK => ?_) (fun h2_ K hK => ?_)
    · refine hK _ _ ?_
      refine wGYk (by rfl) (by rfl) (by rfl) fun K hK => ?_
      refine hK _ _ ?_
      refine wGYk (by rfl) (by rfl) (by rfl) fun K hK => ?_
      refine hK _ _ ?_
      refine wGYk (by rfl) (by rfl) (by rfl) fun K hK => ?_
      have hf0 : f = 0 := Classical.byContradiction (of_decide_eq_false h2_)
      have hpos := (hen.1 hf0).pos
      refine nw (by omega) (by omega) ?_
      refine hK _ _ ?_
      refine wGYk (by rfl) (by rfl) (by rfl) fun K hK => ?_
      refine slT (cxg _) (e := 32) rfl (oL.n - 1) (by omega) (by omega) ?_
      refine hK _ _ ?_
      refine wGYk (by rfl) (by rfl) (by rfl) fun K hK => ?_
      refine hK _ _ ?_
      refine wGYk (by rfl) (by rfl) (by rfl) fun K hK => ?_
      have hbk := OwnO.take (f := fT) (fun _ => rfl) hoL (oL.n - 1) (by omega)
      rw [hLn, hdl, ← hLn] at hbk
      refine callV _ (fun w' hm => equalTok_spec w' ((slZ (OwnO.sl (f := fT) (sz := 4) (fun _ => rfl) (by decide) hbk)).mono (encF_mono _) (hm 3 _ rfl)) ((OwnO.sl (f := fTz) (sz := 4) (fun _ => rfl) (by decide) hKo).mono (encF_mono _) (hm 2 _ rfl)) (by rw [List.length_map, List.length_dropLast]; omega)) ?_
      refine hK _ _ ?_
      refine wGYk (by rfl) (by rfl) (by rfl) fun K hK => ?_
      refine hK _ _ ?_
      refine w1k (by rfl) fun K hK => ?_
      refine hK _ _ ?_
      refine wnil ?_
      refine wcond (by rfl) (fun h9 => ?_) (fun h9 => ?_)
      · exact ⟨[], ⟨by rw [hJ, if_neg (fun g => by rw [map_kz] at h9; rw [decide_eq_true g.2] at h9; cases h9)]; rfl, rfl⟩, fun w' h => h.pick [0] rfl rfl⟩
      · have hg : L.dropLast.map ktF = Kp.map kz := by rw [map_kz] at h9; simpa using h9
        exact ⟨[], ⟨by rw [hJ, if_pos ⟨hf0, hg⟩], rfl⟩, fun w' h => h.pick [0] rfl rfl⟩
    · refine hK _ _ ?_
      refine wGNk (by rfl) (by rfl) (by rfl) fun K hK => ?_
      refine hK _ _ ?_
      refine wGNk (by rfl) (by rfl) (by rfl) fun K hK => ?_
      refine hK _ _ ?_
      refine wGNk (by rfl) (by rfl) (by rfl) fun K hK => ?_
      refine hK _ _ ?_
      refine wGNk (by rfl) (by rfl) (by rfl) fun K hK => ?_
      refine hK _ _ ?_
      refine wGNk (by rfl) (by rfl) (by rfl) fun K hK => ?_
      refine hK _ _ ?_
      refine wGNk (by rfl) (by rfl) (by rfl) fun K hK => ?_
      refine hK _ _ ?_
      refine wGNk (by rfl) (by rfl) (by rfl) fun K hK => ?_
      refine hK _ _ ?_
      refine w1k (by rfl) fun K hK => ?_
      refine hK _ _ ?_
      refine wnil ?_
      refine wcond (by rfl) (fun h9 => ?_) (fun h9 => ?_)
      · exact ⟨[], ⟨by rw [hJ, if_neg (fun g => (of_decide_eq_true h2_) g.1)]; rfl, rfl⟩, fun w' h => h.pick [0] rfl rfl⟩
      · cases h9
end Go.Proofs.YtoholjdojdmbkaaGreatDoor
