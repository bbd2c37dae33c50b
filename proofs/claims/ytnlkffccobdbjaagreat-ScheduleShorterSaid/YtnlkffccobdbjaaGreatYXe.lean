/- Contracts of the model of layer 50: able, fine, outside, strictly, bits, makespan, check. Their premises are their own. -/
import Derived.Test.YtnlkffccobdbjaaGreatYXd
import Derived.Test.YtnlkffccobdbjaaGreatYXa
namespace Go.Proofs.YtnlkffccobdbjaaGreat
open Go Go.RowKit Go.Dw
def fineF50 (TT : List Tk) (SS : List Sn) (m : Int) : Bool := decide ((TT.length : Int) ≤ m) && (decide (SS.length ≤ 3) && (fewF49 TT SS && decide (shopE TT SS = 0)))
theorem fine50_of {TT : List Tk} {SS : List Sn} {m : Int} (h : fineF50 TT SS m = true) : (TT.length : Int) ≤ m ∧ SS.length ≤ 3 ∧ fewF49 TT SS = true ∧ shopE TT SS = 0 := by
  unfold fineF50 at h
  rw [Bool.and_eq_true, Bool.and_eq_true, Bool.and_eq_true, decide_eq_true_eq, decide_eq_true_eq, decide_eq_true_eq] at h
  exact h
theorem outside1_spec {b : Nat} (x m : Int) (w : World) (h1 : Bx (Hp.whole w) b [.int .i64 m]) : CallsE Tryz.prog 99 #[.int .i64 x, .pointer (some ⟨b, 0, none⟩)] w (RetV w (.bool (decide (x < 0) || decide (x ≥ m)))) := by
  refine enter (X := cx 11) (cxg _) (args := [.int .i64 x, .pointer (some ⟨b, 0, none⟩)]) [.tmp 3] Tryz.func99 rfl rfl rfl rfl rfl ?_
  refine bsplitd (fun h => ?_) (fun h => ?_)
  · exact ⟨[], ⟨by rw [decide_eq_true h]; rfl, rfl⟩, fun w' h => h⟩
  · refine ld1 (cxg _) (i := 0) rfl (h1 0 _ rfl) rfl ?_
    exact ⟨[], ⟨by rw [decide_eq_false h]; rfl, rfl⟩, fun w' h => h⟩
theorem outside_spec {al : Option Addr} {nl cl : Nat} {l : List Int} (m : Int) (w : World) (hl : Sl (encF fI) 1 (Hp.whole w) al nl cl l) (hn : l.length < 1000000) :
    CallsE Tryz.prog 56 #[.slice al nl cl, .int .i64 m] w (RetV w (.bool (byF l m))) := by
  have ll := hl.len
  refine enter (X := cx 8) (cxg _) (args := [.slice al nl cl, .int .i64 m]) [.tmp 4] Tryz.func56 rfl rfl rfl rfl rfl ?_
  intro b3
  refine callV _ (fun w' hm => containsFuncInts_spec 99 (.pointer (some ⟨b3, 0, none⟩)) (fun k => decide (k < 0) || decide (k ≥ m)) w' (hl.mono (encF_mono _) (hm 0 _ rfl)) (by omega) (fun w2 h2 x _ => outside1_spec x m w2 ((Bx.of (hm 1 _ rfl)).mono h2))) ?_
  exact ⟨[], ⟨rfl, rfl⟩, fun w' h => h.pick [0] rfl rfl⟩
set_option maxRecDepth 10000 in
theorem strictly_spec {al : Option Addr} {nl cl : Nat} {l : List Int} (w : World) (hl : Sl (encF fI) 1 (Hp.whole w) al nl cl l) (hn : l.length < 1000000) :
    CallsE Tryz.prog 57 #[.slice al nl cl] w (RetV w (.bool (incF l))) := by
  have ll := hl.len
  refine enter (X := cx 20) (cxg _) (args := [.slice al nl cl]) [.tmp 2] Tryz.func57 rfl rfl rfl rfl rfl ?_
  refine NeedL.mk Nat (fun k => [(0, .v (.slice al nl cl)), (3, .v (.int .i64 k))]) (fun _ => [.hp (Hp.whole w)])
    (fun k => 1 ≤ k ∧ (k ≤ nl ∨ k = 1) ∧ ∀ j, j < k → incP l j = false) (fun k => nl - k) 1 ⟨Nat.le_refl _, .inr rfl, fun j hj => by unfold incP; rw [decide_eq_false (by omega)]; rfl⟩ (Ent.mk (fun _ _ h => h) rfl rfl) ?_
  rintro k ⟨hk1, hk, hall⟩
  refine bsplitd (fun h1 => ?_) (fun h1 => ?_)
  · have hkl : k < l.length := by omega
    obtain ⟨x, hx⟩ : ∃ x, x = l[k] := ⟨_, rfl⟩
    obtain ⟨y, hy⟩ : ∃ y, y = l[k - 1]'(by omega) := ⟨_, rfl⟩
    have hP : incP l k = decide (x ≤ y) := by unfold incP; rw [decide_eq_true (by omega), gD hkl, gD (show k - 1 < l.length by omega), ← hx, ← hy]; rfl
    refine NeedD.by_order (cxg _) (.take 0 <| .take 1 <| .take 2 <| .take 3 <| .take 4 <| .take 5 <| .take 6 <| .take 7 <| .take 8 <| .take 9 <| .done) (by kernel_rfl) ?_
    refine nw (by omega) (by omega) ?_
    refine idx (cxg _) (e := 3) rfl hl (k - 1) (by omega) (by omega) (fun b9 o9 cs hcs hR hcell3 => ?_)
    rw [← hy] at hR
    subst hR
    refine ld1 (cxg _) (i := 0) rfl (hcell3 0 _ rfl) rfl ?_
    refine idx (cxg _) (e := 3) rfl hl k rfl hkl (fun b9 o9 cs hcs hR hcell2 => ?_)
    rw [← hx] at hR
    subst hR
    refine ld1 (cxg _) (i := 0) rfl (hcell2 0 _ rfl) rfl ?_
    refine bsplitd (fun h4 => ?_) (fun h4 => ?_)
    · exact ⟨[], ⟨by unfold incF; rw [anyHitR (by omega) (hP.trans (decide_eq_true h4))]; rfl, rfl⟩, fun w' h => h⟩
    · refine nw (by omega) (by omega) ?_
      refine ⟨k + 1, ⟨by omega, .inl (by omega), fun j hj => ?_⟩, by omega, Ent.mk (fun _ _ h => h) rfl rfl⟩
      rcases Nat.lt_or_ge j k with h | h
      · exact hall j h
      · rw [show j = k by omega, hP]; exact decide_eq_false h4
  · exact ⟨[], ⟨by unfold incF; rw [anyNoR fun j hj => hall j (by omega)]; rfl, rfl⟩, fun w' h => h⟩
set_option maxRecDepth 10000 in
theorem bits50_spec (x : Nat) (w : World) (hx : x < 65536) : CallsE Tryz.prog 55 #[.int .i64 x] w (Ret w fun v cs => ∃ o : Dw.Os, v = o.v ∧ cs = [.hp o.h] ∧ OwnO fI 3 1 o (bitsI x 16)) := by
  refine enter (X := cx 19) (cxg _) (args := [.int .i64 x]) [.tmp 2] Tryz.func55 rfl rfl rfl rfl rfl ?_
  refine NeedL.mk (Nat × Dw.Os) (fun g => [(0, .v (.int .i64 x)), (3, .v g.2.v), (5, .v (.int .i64 g.1))]) (fun g => [.hp (Hp.whole w), .hp g.2.h])
    (fun g => g.1 ≤ 16 ∧ OwnO fI 3 1 g.2 (bitsI x g.1)) (fun g => 16 - g.1) (0, Os.nil) ⟨Nat.zero_le _, OwnO.nil _ _ _⟩ (Ent.mk (fun _ _ h => h.emp) rfl rfl) ?_
  rintro ⟨k, o⟩ ⟨hk, ho⟩
  dsimp only at *
  refine bsplitd (fun h1 => ?_) (fun h1 => ?_)
  · have hst := bitsI_succ x k
    have hbl := bitsI_len x k
    have hsh : x >>> k < 9223372036854775808 := Nat.lt_of_le_of_lt (Nat.shiftRight_le x k) (by omega)
    refine qShrI x k rfl rfl (by omega) ?_
    refine qAndI (x >>> k) 1 rfl rfl hsh (by decide) ?_
    refine bsplitd (fun h2 => ?_) (fun h2 => ?_)
    · rw [if_pos (by unfold bitsP; exact decide_eq_true (by omega))] at hst
      intro b15
      refine appO (f := fI) (cxg _) (e := 3) rfl (i := 1) rfl ho (j := 2) (k : Int) rfl rfl rfl rfl (by omega) (fun o2 ho2 => ?_)
      refine nw (by omega) (by omega) ?_
      exact ⟨(k + 1, o2), ⟨by dsimp only; omega, by dsimp only; rw [hst]; exact ho2⟩, by dsimp only; omega, Ent.mk (fun _ _ h => h.pick [0, 1] rfl rfl) rfl rfl⟩
    · rw [if_neg (by unfold bitsP; rw [decide_eq_true_eq]; omega)] at hst
      refine nw (by omega) (by omega) ?_
      exact ⟨(k + 1, o), ⟨by dsimp only; omega, by dsimp only; rw [hst]; exact ho⟩, by dsimp only; omega, Ent.mk (fun _ _ h => h) rfl rfl⟩
  · obtain rfl : k = 16 := by omega
    exact ⟨[.hp o.h], ⟨o, rfl, rfl, ho⟩, fun w' h => h⟩
section
variable {a a' : Option Addr} {n c n' c' : Nat} {TT : List Tk} {SS : List Sn}
set_option maxRecDepth 10000 in
theorem able50_spec (i k : Nat) (w : World) (hT : Sl encT 4 (Hp.whole w) a n c TT) (hS : Sl encN 2 (Hp.whole w) a' n' c' SS) (hs : Sml TT SS) (hi : i < TT.length) (hk : k < SS.length) :
    CallsE Tryz.prog 69 #[sv a n c a' n' c', .int .i64 i, .int .i64 k] w (RetV w (.bool (caA TT SS i k))) := by
  have lT := hT.len
  have lS := hS.len
  obtain ⟨t, ht⟩ : ∃ t, t = TT[i] := ⟨_, rfl⟩
  obtain ⟨s, hsd⟩ : ∃ s, s = SS[k] := ⟨_, rfl⟩
  have hsl := hs.s s (by rw [hsd]; exact List.getElem_mem hk)
  have hca : caA TT SS i k = (decide (t.tl = ByteArray.empty) || s.ts.any fun x => decide (x = t.tl)) := by unfold caA; rw [tk_get hi, gD hk, ← ht, ← hsd]; rfl
  refine enter (X := cx 26) (cxg _) (args := [.agg #[.slice a n c, .slice a' n' c'], .int .i64 i, .int .i64 k]) [.tmp 6] Tryz.func69 rfl rfl rfl rfl rfl ?_
  intro b3
  refine idx (cxg _) (e := 64) rfl hT i rfl hi (fun b9 o9 cs hcs hR hcell1 => ?_)
  rw [← ht] at hR
  obtain ⟨a3, n3, c3, rfl, hs3⟩ := hR
  refine ld1 (cxg _) (i := 0) rfl (hcell1 2 _ rfl) rfl ?_
  refine qEqS ?_
  refine bsplitd (fun h2 => ?_) (fun h2 => ?_)
  · exact ⟨[], ⟨by rw [hca, decide_eq_true (show t.tl = ByteArray.empty from h2)]; rfl, rfl⟩, fun w' h => h.pick [0] rfl rfl⟩
  · refine idx (cxg _) (e := 60) rfl hS k rfl hk (fun b9 o9 cs hcs hR hcell3 => ?_)
    rw [← hsd] at hR
    obtain ⟨a4, n4, c4, rfl, hs4⟩ := hR
    have l4 := hs4.len
    refine ld1 (cxg _) (i := 0) rfl (hcell3 1 _ rfl) rfl ?_
    refine callV _ (fun w' hm => containsStr_spec t.tl w' (hs4.mono (encF_mono _) (hm 0 _ rfl)) (by omega)) ?_
    exact ⟨[], ⟨by rw [hca, decide_eq_false (show ¬ t.tl = ByteArray.empty from h2)]; rfl, rfl⟩, fun w' h => h.pick [0] rfl rfl⟩
set_option maxRecDepth 10000 in
theorem fine50_spec (m : Int) (w : World) (hT : Sl encT 4 (Hp.whole w) a n c TT) (hS : Sl encN 2 (Hp.whole w) a' n' c' SS) :
    CallsE Tryz.prog 14 #[sv a n c a' n' c', .int .i64 m] w (RetV w (.bool (fineF50 TT SS m))) := by
  have lT := hT.len
  have lS := hS.len
  have hf : fineF50 TT SS m = (decide ((TT.length : Int) ≤ m) && (decide (SS.length ≤ 3) && (fewF49 TT SS && decide (shopE TT SS = 0)))) := rfl
  refine enter (X := cx 25) (cxg _) (args := [.agg #[.slice a n c, .slice a' n' c'], .int .i64 m]) [.tmp 4] Tryz.func14 rfl rfl rfl rfl rfl ?_
  intro b2
  refine bsplitd (fun h1 => ?_) (fun h1 => ?_)
  · rw [decide_eq_true (show (TT.length : Int) ≤ m by omega), Bool.true_and] at hf
    refine bsplitd (fun h2 => ?_) (fun h2 => ?_)
    · rw [decide_eq_true (show SS.length ≤ 3 by omega), Bool.true_and] at hf
      obtain ⟨fe, hfe⟩ : ∃ fe, fe = fewF49 TT SS := ⟨_, rfl⟩
      refine callV (.bool fe) (fun w' hm => by rw [hfe]; exact Few_spec w' (hT.mono encT_mono (hm 0 _ rfl)) (hS.mono encN_mono (hm 0 _ rfl))) ?_
      refine bsplit (fun h3 => ?_) (fun h3 => ?_)
      · have hfw : fewF49 TT SS = true := by rw [← hfe]; exact h3
        rw [hfw, Bool.true_and] at hf
        obtain ⟨Z, hZ⟩ : ∃ Z, Z = shopE TT SS := ⟨_, rfl⟩
        refine callV (.int .i64 Z) (fun w' hm => by rw [hZ]; exact Check49_spec w' (hT.mono encT_mono (hm 0 _ rfl)) (hS.mono encN_mono (hm 0 _ rfl)) (few49_sml hfw).1 (few49_str hfw)) ?_
        exact ⟨[], ⟨by rw [hf, ← hZ], rfl⟩, fun w' h => h.pick [0] rfl rfl⟩
      · rw [← hfe, h3] at hf
        exact ⟨[], ⟨by rw [hf]; rfl, rfl⟩, fun w' h => h.pick [0] rfl rfl⟩
    · rw [decide_eq_false (show ¬ SS.length ≤ 3 by omega)] at hf
      exact ⟨[], ⟨by rw [hf]; rfl, rfl⟩, fun w' h => h.pick [0] rfl rfl⟩
  · rw [decide_eq_false (show ¬ (TT.length : Int) ≤ m by omega)] at hf
    exact ⟨[], ⟨by rw [hf]; rfl, rfl⟩, fun w' h => h.pick [0] rfl rfl⟩
theorem du_get {TT : List Tk} {i : Nat} (hi : i < TT.length) : duA TT i = TT[i].du := by unfold duA; rw [tk_get hi]
set_option maxRecDepth 10000 in
theorem makespan50_spec {al : Option Addr} {nl cl : Nat} {L : List Jb} (w : World) (hT : Sl encT 4 (Hp.whole w) a n c TT) (hF : Fit TT) (hL : Sl (encF fJ) 3 (Hp.whole w) al nl cl L) (hn : L.length ≤ TT.length)
    (hJ : ∀ i, i < L.length → (jbA L i).1 = i ∧ 0 ≤ stA L i ∧ stA L i ≤ 1000000000000) :
    CallsE Tryz.prog 21 #[sv a n c a' n' c', .slice al nl cl] w (RetV w (.int .i64 (mspF TT L))) := by
  have lT := hT.len
  have lL := hL.len
  have hFn := hF.n
  refine enter (X := cx 28) (cxg _) (args := [.agg #[.slice a n c, .slice a' n' c'], .slice al nl cl]) [.tmp 4] Tryz.func21 rfl rfl rfl rfl rfl ?_
  intro b2
  refine NeedL.mk (Nat × Int) (fun g => [(2, .bx 1 0), (5, .v (.int .i64 g.2)), (8, .v (.slice al nl cl)), (9, .v (.int .i64 nl)), (10, .v (.int .i64 g.1))]) (fun _ => [.hp (Hp.whole w), .box b2 [.slice a n c, .slice a' n' c'] 25])
    (fun g => g.1 ≤ nl ∧ g.2 = mspF TT (L.take g.1) ∧ 0 ≤ g.2 ∧ g.2 ≤ 2000000000000) (fun g => nl - g.1) (0, 0) ⟨Nat.zero_le _, by simp [mspF], Int.le_refl _, by decide⟩ (Ent.mk (fun _ _ h => h) rfl rfl) ?_
  rintro ⟨k, m⟩ ⟨hk, hm0, hm1, hm2⟩
  dsimp only at *
  refine bsplitd (fun h1 => ?_) (fun h1 => ?_)
  · have hkL : k < L.length := by omega
    have hkT : k < TT.length := by omega
    obtain ⟨q1, q2, q3⟩ := hJ k hkL
    have hd := hF.d hkT
    rw [du_get hkT] at hd
    have e : jbA L k = L[k] := gD hkL
    obtain ⟨t, ht⟩ : ∃ t, t = TT[k] := ⟨_, rfl⟩
    unfold stA at q2 q3
    rw [e] at q1 q2 q3
    have hst : mspF TT (L.take (k + 1)) = max m (endF TT L[k]) := by
      rw [hm0]
      unfold mspF
      rw [List.take_succ_eq_append_getElem hkL, List.foldl_append]
      rfl
    have hen : endF TT L[k] = L[k].2.2 + t.du := by unfold endF; rw [q1, Int.toNat_natCast, tk_get hkT, ht]
    rw [hen] at hst
    rw [← ht] at hd
    obtain ⟨⟨j1, j2, j3⟩, hj⟩ : ∃ j, j = L[k] := ⟨_, rfl⟩
    rw [← hj] at hst q2 q3
    dsimp only at hst q2 q3
    refine idx (cxg _) (e := 52) rfl hL k rfl hkL (fun b9 o9 cs hcs hR hcell2 => ?_)
    rw [← hj] at hR
    subst hR
    refine ldn (cxg _) (i := 0) rfl hcell2 rfl ?_
    intro b7
    refine NeedD.by_order (cxg _) (.take 0 <| .take 1 <| .take 2 <| .take 3 <| .take 4 <| .take 5 <| .take 6 <| .take 7 <| .take 8 <| .take 9 <| .run 10 <| .take 11 <| .done) (by kernel_rfl) ?_
    refine idx (cxg _) (e := 64) rfl hT k rfl hkT (fun b9 o9 cs hcs hR hcell3 => ?_)
    rw [← ht] at hR
    obtain ⟨a3, n3, c3, rfl, hs3⟩ := hR
    refine ld1 (cxg _) (i := 0) rfl (hcell3 1 _ rfl) rfl ?_
    refine nw (by dsimp only; omega) (by dsimp only; omega) ?_
    refine qMax ?_
    refine ⟨(by repeat first | exact trivial | refine ⟨.inl rfl, ?_⟩ | refine ⟨.inr rfl, ?_⟩), ?_⟩
    refine nw (by omega) (by omega) ?_
    exact ⟨(k + 1, max m (j3 + t.du)), ⟨by dsimp only; omega, by dsimp only; rw [hst], by dsimp only; omega, by dsimp only; omega⟩, by dsimp only; omega, Ent.mk (fun _ _ h => h.pick [0, 1] rfl rfl) rfl rfl⟩
  · rw [List.take_of_length_le (by omega)] at hm0
    exact ⟨[], ⟨by rw [hm0], rfl⟩, fun w' h => h.pick [0] rfl rfl⟩
set_option maxRecDepth 10000 in
theorem check50_spec {al : Option Addr} {nl cl : Nat} {L : List Jb} (w : World) (hT : Sl encT 4 (Hp.whole w) a n c TT) (hS : Sl encN 2 (Hp.whole w) a' n' c' SS) (hs : Sml TT SS) (hF : Fit TT) (hL : Sl (encF fJ) 3 (Hp.whole w) al nl cl L) :
    CallsE Tryz.prog 20 #[sv a n c a' n' c', .slice al nl cl] w (RetV w (.int .i64 (schE TT SS L))) := by
  have lT := hT.len
  have lS := hS.len
  have lL := hL.len
  have hFn := hF.n
  refine enter (X := cx 139) (cxg _) (args := [.agg #[.slice a n c, .slice a' n' c'], .slice al nl cl]) [.tmp 4] Tryz.func20 rfl rfl rfl rfl rfl ?_
  intro b2
  refine bsplitd (fun h2 => ?_) (fun h2 => ?_)
  · exact ⟨[], ⟨by unfold schE; rw [if_pos (by omega)], rfl⟩, fun w' h => h.pick [0] rfl rfl⟩
  have hlen : L.length = TT.length := by omega
  have hc1 : schE TT SS L = match firstE (fun i => jobE TT SS i (jbA L i)) TT.length with
    | some e => e
    | none => (firstE (cnfE TT L) TT.length).getD 0 := by unfold schE; rw [if_neg (by omega)]; rfl
  refine NeedL.mk Nat (fun k => [(1, .v (.slice al nl cl)), (2, .bx 1 0), (19, .v (.slice al nl cl)), (20, .v (.int .i64 nl)), (21, .v (.int .i64 k))]) (fun _ => [.hp (Hp.whole w), .box b2 [.slice a n c, .slice a' n' c'] 25])
    (fun k => k ≤ nl ∧ ∀ j, j < k → jobE TT SS j (jbA L j) = 0) (fun k => nl - k) 0 ⟨Nat.zero_le _, fun j h => by omega⟩ (Ent.mk (fun _ _ h => h) rfl rfl) ?_
  rintro i ⟨hi, hall⟩
  refine bsplitd (fun h3 => ?_) (fun h3 => ?_)
  · have hiT : i < TT.length := by omega
    have hiL : i < L.length := by omega
    have e : jbA L i = L[i] := gD hiL
    obtain ⟨⟨j1, j2, j3⟩, hj⟩ : ∃ j, j = L[i] := ⟨_, rfl⟩
    have hbad : jobE TT SS i (j1, j2, j3) ≠ 0 → schE TT SS L = jobE TT SS i (j1, j2, j3) := fun h => by
      rw [hc1, firstE_hit (f := fun i => jobE TT SS i (jbA L i)) hiT hall (by rw [e, ← hj]; exact h)]
      dsimp only
      rw [e, ← hj]
    refine idx (cxg _) (e := 52) rfl hL i rfl hiL (fun b9 o9 cs hcs hR hcell4 => ?_)
    rw [← hj] at hR
    subst hR
    refine ldn (cxg _) (i := 0) rfl hcell4 rfl ?_
    intro b6
    have hE1 : jobE TT SS i (j1, j2, j3) = if j1 ≠ i then 8 else if j2 < 0 ∨ j2 ≥ SS.length ∨ j3 < 0 ∨ j3 > 25165824 then 2 else if caA TT SS i j2.toNat = false then 10 else 0 := rfl
    refine bsplitd (fun h5 => ?_) (fun h5 => ?_)
    · rw [if_pos h5] at hE1
      exact ⟨[], ⟨by rw [hbad (by rw [hE1]; decide), hE1], rfl⟩, fun w' h => h.pick [0] rfl rfl⟩
    rw [if_neg h5] at hE1
    have two : (j2 < 0 ∨ j2 ≥ SS.length ∨ j3 < 0 ∨ j3 > 25165824) → schE TT SS L = 2 := fun h => by
      rw [if_pos h] at hE1
      rw [hbad (by rw [hE1]; decide), hE1]
    refine bsplitd (fun (h6 : j2 < 0) => ?_) (fun (h6 : ¬ j2 < 0) => ?_)
    · exact ⟨[], ⟨by rw [two (by omega)], rfl⟩, fun w' h => h.pick [0] rfl rfl⟩
    refine bsplitd (fun (h7 : j2 ≥ (n' : Int)) => ?_) (fun (h7 : ¬ j2 ≥ (n' : Int)) => ?_)
    · exact ⟨[], ⟨by rw [two (by omega)], rfl⟩, fun w' h => h.pick [0] rfl rfl⟩
    refine bsplitd (fun (h8 : j3 < 0) => ?_) (fun (h8 : ¬ j3 < 0) => ?_)
    · exact ⟨[], ⟨by rw [two (by omega)], rfl⟩, fun w' h => h.pick [0] rfl rfl⟩
    refine bsplitd (fun (h9 : j3 > 25165824) => ?_) (fun (h9 : ¬ j3 > 25165824) => ?_)
    · exact ⟨[], ⟨by rw [two (by omega)], rfl⟩, fun w' h => h.pick [0] rfl rfl⟩
    rw [if_neg (by omega)] at hE1
    obtain ⟨v, rfl⟩ : ∃ v : Nat, j2 = v := ⟨j2.toNat, by omega⟩
    have hv : v < SS.length := by omega
    obtain ⟨ca, hca⟩ : ∃ ca, ca = caA TT SS i v := ⟨_, rfl⟩
    have kA : ∀ w' : World, Sl encT 4 (Hp.whole w') a n c TT → Sl encN 2 (Hp.whole w') a' n' c' SS → CallsE Tryz.prog 69 #[sv a n c a' n' c', .int .i64 i, .int .i64 v] w' (RetV w' (.bool ca)) := fun w' h1 h2 => by
      rw [hca]; exact able50_spec i v w' h1 h2 hs hiT hv
    refine callV _ (fun w' hm => kA w' (hT.mono encT_mono (hm 0 _ rfl)) (hS.mono encN_mono (hm 0 _ rfl))) ?_
    rw [Int.toNat_natCast, ← hca] at hE1
    cases ca with
    | false =>
      exact ⟨[], ⟨by rw [hbad (by rw [hE1]; decide), hE1]; rfl, rfl⟩, fun w' h => h.pick [0] rfl rfl⟩
    | true =>
      refine nw (by omega) (by omega) ?_
      refine ⟨i + 1, ⟨by omega, fun j hjl => ?_⟩, by omega, Ent.mk (fun _ _ h => h.pick [0, 1] rfl rfl) rfl rfl⟩
      rcases Nat.lt_or_ge j i with h | h
      · exact hall j h
      · rw [show j = i by omega, e, ← hj, hE1]; rfl
  have hok : ∀ j, j < TT.length → jobE TT SS j (jbA L j) = 0 := fun j hj => hall j (by omega)
  rw [firstE_none hok] at hc1
  dsimp only at hc1
  clear hall
  refine NeedL.mk Nat (fun k => [(1, .v (.slice al nl cl)), (2, .bx 1 0), (61, .v (.slice al nl cl)), (62, .v (.int .i64 nl)), (63, .v (.int .i64 k))]) (fun _ => [.hp (Hp.whole w), .box b2 [.slice a n c, .slice a' n' c'] 25])
    (fun k => k ≤ nl ∧ ∀ j, j < k → cnfE TT L j = 0) (fun k => nl - k) 0 ⟨Nat.zero_le _, fun j h => by omega⟩ (Ent.mk (fun _ _ h => h) rfl rfl) ?_
  rintro i ⟨hi, hall⟩
  refine bsplitd (fun h3 => ?_) (fun h3 => ?_)
  · have hiT : i < TT.length := by omega
    have hiL : i < L.length := by omega
    have e : jbA L i = L[i] := gD hiL
    obtain ⟨p1, _, p3, _⟩ := jobE_ok (hok i hiT)
    obtain ⟨⟨j1, j2, j3⟩, hj⟩ : ∃ j, j = L[i] := ⟨_, rfl⟩
    rw [e, ← hj] at p1 p3
    dsimp only at p1 p3
    have hbad : cnfE TT L i ≠ 0 → schE TT SS L = cnfE TT L i := fun h => by
      rw [hc1, firstE_hit hiT hall h]; rfl
    obtain ⟨t, ht⟩ : ∃ t, t = TT[i] := ⟨_, rfl⟩
    have haf : afA TT i = t.af := by unfold afA; rw [tk_get hiT, ← ht]
    have htm : t ∈ TT := by rw [ht]; exact List.getElem_mem hiT
    have hal := hF.al t htm
    have hdu := hF.du t htm
    have hE1 : cnfE TT L i = if (L.take i).any (cnf1 TT (j1, j2, j3)) = true then 17 else if t.af.any (fun x => decide (endF TT (jbA L x.toNat) > j3)) = true then 18 else 0 := by
      unfold cnfE stA; rw [e, ← hj, haf]
    have hei : endF TT (j1, j2, j3) = j3 + t.du := by unfold endF; rw [p1, Int.toNat_natCast, tk_get hiT, ht]
    refine idx (cxg _) (e := 52) rfl hL i rfl hiL (fun b9 o9 cs hcs hR hcell11 => ?_)
    rw [← hj] at hR
    subst hR
    refine ldn (cxg _) (i := 0) rfl hcell11 rfl ?_
    intro b8
    refine slS (cxg _) (e := 52) rfl hL 0 i (.inl ⟨rfl, rfl⟩) (.inr ⟨_, _, rfl, rfl⟩) (by omega) (by omega) (fun a70 hs70 => ?_)
    rw [List.drop_zero] at hs70
    have l70 := hs70.len
    rw [List.length_take] at l70
    refine NeedL.mk Nat (fun k => [(1, .v (.slice al nl cl)), (2, .bx 1 0), (7, .v (.int .i64 i)), (8, .bx 2 0), (61, .v (.slice al nl cl)), (62, .v (.int .i64 nl)), (63, .v (.int .i64 i)), (70, .v (.slice a70 (i - 0) (cl - 0))), (71, .v (.int .i64 (i - 0 : Nat))), (72, .v (.int .i64 k))]) (fun _ => [.hp (Hp.whole w), .box b2 [.slice a n c, .slice a' n' c'] 25, .box b8 [.int .i64 j1, .int .i64 j2, .int .i64 j3] 52])
      (fun k => k ≤ i ∧ ∀ j (h : j < L.length), j < k → cnf1 TT (j1, j2, j3) L[j] = false) (fun k => i - k) 0 ⟨Nat.zero_le _, fun j _ h => by omega⟩ (Ent.mk (fun _ _ h => h) rfl rfl) ?_
    rintro k ⟨hk, hno⟩
    refine bsplitd (fun h12 => ?_) (fun h12 => ?_)
    · have hkL : k < L.length := by omega
      have hkT : k < TT.length := by omega
      have ek : jbA L k = L[k] := gD hkL
      obtain ⟨y1, _, y3, _⟩ := jobE_ok (hok k hkT)
      obtain ⟨⟨k1, k2, k3⟩, hkd⟩ : ∃ j, j = L[k] := ⟨_, rfl⟩
      rw [ek, ← hkd] at y1 y3
      dsimp only at y1 y3
      obtain ⟨u, hu⟩ : ∃ u, u = TT[k] := ⟨_, rfl⟩
      have hdk := hF.du u (by rw [hu]; exact List.getElem_mem hkT)
      have hek : endF TT (k1, k2, k3) = k3 + u.du := by unfold endF; rw [y1, Int.toNat_natCast, tk_get hkT, hu]
      have hcn : cnf1 TT (j1, j2, j3) (k1, k2, k3) = (decide (k2 = j2) && (decide (k3 < j3 + t.du) && decide (j3 < k3 + u.du))) := by unfold cnf1; rw [hei, hek]
      refine idx (cxg _) (e := 52) rfl hs70 k rfl (by rw [List.length_take]; omega) (fun b9 o9 cs hcs hR hcell13 => ?_)
      rw [List.getElem_take, ← hkd] at hR
      subst hR
      refine ldn (cxg _) (i := 0) rfl hcell13 rfl ?_
      intro b10
      refine NeedD.cut Bool (fun g => [(1, .v (.slice al nl cl)), (2, .bx 1 0), (7, .v (.int .i64 i)), (8, .bx 2 0), (61, .v (.slice al nl cl)), (62, .v (.int .i64 nl)), (63, .v (.int .i64 i)), (70, .v (.slice a70 (i - 0) (cl - 0))), (71, .v (.int .i64 (i - 0 : Nat))), (72, .v (.int .i64 k)), (109, .v (.bool g))]) (fun _ => [.hp (Hp.whole w), .box b2 [.slice a n c, .slice a' n' c'] 25, .box b8 [.int .i64 j1, .int .i64 j2, .int .i64 j3] 52, .box b10 [.int .i64 k1, .int .i64 k2, .int .i64 k3] 52]) (fun g => g = cnf1 TT (j1, j2, j3) (k1, k2, k3)) (NeedD.by_order (cxg _) (.take 0 <| .take 1 <| .take 2 <| .take 3 <| .take 4 <| .take 5 <| .take 6 <| .take 7 <| .take 8 <| .take 9 <| .take 10 <| .take 11 <| .take 12 <| .take 13 <| .take 14 <| .take 15 <| .take 16 <| .take 17 <| .take 18 <| .take 19 <| .take 20 <| .take 21 <| .take 22 <| .take 23 <| .take 24 <| .take 25 <| .take 26 <| .take 27 <| .take 28 <| .take 29 <| .take 30 <| .take 31 <| .take 32 <| .done) (by kernel_rfl) ?_) ?_
      · refine bsplitd (fun h14 => ?_) (fun h14 => ?_)
        · refine idx (cxg _) (e := 64) rfl hT k rfl hkT (fun b9 o9 cs hcs hR hcell15 => ?_)
          rw [← hu] at hR
          obtain ⟨a3, n3, c3, rfl, hs3⟩ := hR
          refine ld1 (cxg _) (i := 0) rfl (hcell15 1 _ rfl) rfl ?_
          refine nw (by dsimp only; omega) (by dsimp only; omega) ?_
          refine bsplitd (fun h16 => ?_) (fun h16 => ?_)
          · refine idx (cxg _) (e := 64) rfl hT i rfl hiT (fun b9 o9 cs hcs hR hcell17 => ?_)
            rw [← ht] at hR
            obtain ⟨a4, n4, c4, rfl, hs4⟩ := hR
            refine ld1 (cxg _) (i := 0) rfl (hcell17 1 _ rfl) rfl ?_
            refine nw (by omega) (by omega) ?_
            exact ⟨decide (k3 < j3 + t.du), by rw [hcn, decide_eq_true h14.symm, decide_eq_true h16, Bool.true_and, Bool.and_true], Ent.mk (fun _ _ h => h) rfl rfl⟩
          · exact ⟨false, by rw [hcn, decide_eq_false h16, Bool.and_false, Bool.and_false], Ent.mk (fun _ _ h => h) rfl rfl⟩
        · exact ⟨false, by rw [hcn, decide_eq_false (fun h => h14 h.symm), Bool.false_and], Ent.mk (fun _ _ h => h) rfl rfl⟩
      rintro g hg hsat
      dsimp only
      refine bsplit (fun h18 => ?_) (fun h18 => ?_)
      · rw [if_pos (take_hit (k := k) (by omega) hkL (by rw [← hkd, ← hg]; exact h18))] at hE1
        exact ⟨[], ⟨by rw [hbad (by rw [hE1]; decide), hE1], rfl⟩, fun w' h => h.pick [0] rfl rfl⟩
      · refine nw (by omega) (by omega) ?_
        refine ⟨k + 1, ⟨by omega, fun j hjl hjk => ?_⟩, by omega, Ent.mk (fun _ _ h => h.pick [0, 1, 2] rfl rfl) rfl rfl⟩
        rcases Nat.lt_or_ge j k with h | h
        · exact hno j hjl h
        · obtain rfl : j = k := by omega
          rw [← hkd, ← hg]; exact h18
    · rw [take_no fun j hjl hji => hno j hjl (by omega), if_neg (by decide)] at hE1
      refine idx (cxg _) (e := 64) rfl hT i rfl hiT (fun b9 o9 cs hcs hR hcell19 => ?_)
      rw [← ht] at hR
      obtain ⟨a4, n4, c4, rfl, hs4⟩ := hR
      have l4 := hs4.len
      refine ld1 (cxg _) (i := 0) rfl (hcell19 3 _ rfl) rfl ?_
      refine NeedL.mk Nat (fun k => [(1, .v (.slice al nl cl)), (2, .bx 1 0), (8, .bx 2 0), (61, .v (.slice al nl cl)), (62, .v (.int .i64 nl)), (63, .v (.int .i64 i)), (116, .v (.slice a4 n4 c4)), (117, .v (.int .i64 n4)), (118, .v (.int .i64 k))]) (fun _ => [.hp (Hp.whole w), .box b2 [.slice a n c, .slice a' n' c'] 25, .box b8 [.int .i64 j1, .int .i64 j2, .int .i64 j3] 52])
        (fun k => k ≤ n4 ∧ ∀ x ∈ t.af.take k, decide (endF TT (jbA L x.toNat) > j3) = false) (fun k => n4 - k) 0 ⟨Nat.zero_le _, fun x hx => by simp at hx⟩ (Ent.mk (fun _ _ h => h) rfl rfl) ?_
      rintro q ⟨hq, hno2⟩
      refine bsplitd (fun h20 => ?_) (fun h20 => ?_)
      · have hqt : q < t.af.length := by omega
        obtain ⟨x, hx⟩ : ∃ x, x = t.af[q] := ⟨_, rfl⟩
        have hxr := hF.ar t htm x (by rw [hx]; exact List.getElem_mem hqt)
        obtain ⟨v, rfl⟩ : ∃ v : Nat, x = v := ⟨x.toNat, by omega⟩
        have hvT : v < TT.length := by omega
        have hvL : v < L.length := by omega
        obtain ⟨y1, _, y3, _⟩ := jobE_ok (hok v hvT)
        have ev : jbA L v = L[v] := gD hvL
        obtain ⟨⟨k1, k2, k3⟩, hkd⟩ : ∃ j, j = L[v] := ⟨_, rfl⟩
        rw [ev, ← hkd] at y1 y3
        dsimp only at y1 y3
        obtain ⟨u, hu⟩ : ∃ u, u = TT[v] := ⟨_, rfl⟩
        have hdk := hF.du u (by rw [hu]; exact List.getElem_mem hvT)
        have hek : endF TT (jbA L ((v : Int)).toNat) = k3 + u.du := by rw [Int.toNat_natCast, ev, ← hkd]; unfold endF; rw [y1, Int.toNat_natCast, tk_get hvT, hu]
        refine idx (cxg _) (e := 3) rfl hs4 q rfl hqt (fun b9 o9 cs hcs hR hcell21 => ?_)
        subst hR
        rw [← hx] at hcell21
        refine ld1 (cxg _) (i := 0) rfl (hcell21 0 _ rfl) rfl ?_
        refine NeedD.by_order (cxg _) (.take 0 <| .take 1 <| .take 2 <| .take 3 <| .take 4 <| .take 5 <| .take 6 <| .take 7 <| .take 8 <| .take 9 <| .take 10 <| .take 11 <| .take 12 <| .take 13 <| .take 14 <| .done) (by kernel_rfl) ?_
        refine idx (cxg _) (e := 52) rfl hL v rfl hvL (fun b9 o9 cs hcs hR hcell22 => ?_)
        rw [← hkd] at hR
        subst hR
        refine ld1 (cxg _) (i := 0) rfl (hcell22 2 _ rfl) rfl ?_
        refine idx (cxg _) (e := 64) rfl hT v rfl hvT (fun b9 o9 cs hcs hR hcell23 => ?_)
        rw [← hu] at hR
        obtain ⟨a5, n5, c5, rfl, hs5⟩ := hR
        refine ld1 (cxg _) (i := 0) rfl (hcell23 1 _ rfl) rfl ?_
        refine nw (by dsimp only; omega) (by dsimp only; omega) ?_
        refine bsplitd (fun h24 => ?_) (fun h24 => ?_)
        · rw [if_pos (List.any_eq_true.2 ⟨(v : Int), by rw [hx]; exact List.getElem_mem hqt, by rw [hek]; exact decide_eq_true h24⟩)] at hE1
          exact ⟨[], ⟨by rw [hbad (by rw [hE1]; decide), hE1], rfl⟩, fun w' h => h.pick [0] rfl rfl⟩
        · refine nw (by omega) (by omega) ?_
          refine ⟨q + 1, ⟨by omega, fun z hz => ?_⟩, by omega, Ent.mk (fun _ _ h => h) rfl rfl⟩
          rw [List.take_succ_eq_append_getElem hqt, List.mem_append, List.mem_singleton] at hz
          rcases hz with hz | rfl
          · exact hno2 z hz
          · rw [← hx, hek]; exact decide_eq_false h24
      · rw [List.take_of_length_le (by omega)] at hno2
        have e4 : t.af.any (fun x => decide (endF TT (jbA L x.toNat) > j3)) = false := by rw [List.any_eq_false]; intro z hz; rw [hno2 z hz]; decide
        rw [e4, if_neg (by decide)] at hE1
        refine nw (by omega) (by omega) ?_
        refine ⟨i + 1, ⟨by omega, fun j hji => ?_⟩, by omega, Ent.mk (fun _ _ h => h.pick [0, 1] rfl rfl) rfl rfl⟩
        rcases Nat.lt_or_ge j i with h | h
        · exact hall j h
        · rw [show j = i by omega]; exact hE1
  · rw [firstE_none fun j hj => hall j (by omega)] at hc1
    exact ⟨[], ⟨by rw [hc1]; rfl, rfl⟩, fun w' h => h.pick [0] rfl rfl⟩
end
end Go.Proofs.YtnlkffccobdbjaaGreat
