/- Contracts of the model of layer 49: checkTask, checkStation. Their premises are their own. -/
import Derived.Test.YtnlkffccobdbjaaGreatYXb
namespace Go.Proofs.YtnlkffccobdbjaaGreat
open Go Go.RowKit Go.Dw
structure StB (TT : List Tk) (SS : List Sn) : Prop where
  t : ∀ t ∈ TT, t.nm.size ≤ 50 ∧ t.tl.size ≤ 50
  s : ∀ s ∈ SS, s.nm.size ≤ 50 ∧ ∀ x ∈ s.ts, x.size ≤ 50
theorem few49_str {TT : List Tk} {SS : List Sn} (h : fewF49 TT SS = true) : StB TT SS := by
  unfold fewF49 at h
  rw [Bool.and_eq_true, Bool.and_eq_true, Bool.and_eq_true, List.all_eq_true, List.all_eq_true] at h
  obtain ⟨_, _, h3, h4⟩ := h
  refine ⟨fun t ht => ?_, fun s hs => ?_⟩
  · have := h3 t ht
    unfold fewT at this
    rw [Bool.and_eq_true, Bool.and_eq_true, decide_eq_true_eq, decide_eq_true_eq, decide_eq_true_eq] at this
    exact this.2
  · have := h4 s hs
    unfold fewN at this
    rw [Bool.and_eq_true, Bool.and_eq_true, decide_eq_true_eq, decide_eq_true_eq, List.all_eq_true] at this
    exact ⟨this.2.1, fun x hx => of_decide_eq_true (this.2.2 x hx)⟩
theorem take_hit {α : Type} {L : List α} {p : α → Bool} {i k : Nat} (hk : k < i) (hl : k < L.length) (h : p L[k] = true) : (L.take i).any p = true :=
  List.any_eq_true.2 ⟨L[k], by rw [List.mem_iff_getElem]; exact ⟨k, by rw [List.length_take]; omega, by rw [List.getElem_take]⟩, h⟩
theorem take_no {α : Type} {L : List α} {p : α → Bool} {i : Nat} (h : ∀ k (hk : k < L.length), k < i → p L[k] = false) : (L.take i).any p = false := by
  rw [List.any_eq_false]
  intro x hx
  obtain ⟨k, hk, rfl⟩ := List.mem_iff_getElem.1 hx
  rw [List.length_take] at hk
  rw [List.getElem_take, h k (by omega) (by omega)]
  decide
section
variable {a a' : Option Addr} {n c n' c' : Nat} {TT : List Tk} {SS : List Sn}
set_option maxRecDepth 10000 in
theorem checkTask49_spec (i : Nat) (w : World) (hT : Sl encT 4 (Hp.whole w) a n c TT) (hs : Sml TT SS) (hb : StB TT SS) (hi : i < TT.length) :
    CallsE Tryz.prog 113 #[sv a n c a' n' c', .int .i64 i] w (RetV w (.int .i64 (taskE TT i))) := by
  have hlen := hT.len
  have hn := hs.n
  obtain ⟨t, ht⟩ : ∃ t, t = TT[i] := ⟨_, rfl⟩
  have htm : t ∈ TT := by rw [ht]; exact List.getElem_mem hi
  have htl : t.af.length < 1000 := hs.a _ htm
  have htb := hb.t _ htm
  have htd : TT.getD i default = t := by rw [List.getD_eq_getElem?_getD, List.getElem?_eq_getElem hi, ht]; rfl
  have hE : taskE TT i = if nmOk t.nm = false then 11 else if (TT.take i).any (fun x => decide (x.nm = t.nm)) then 9 else if t.du < 1 ∨ t.du > 1048576 then 2
      else if t.tl ≠ ByteArray.empty ∧ nmOk t.tl = false then 11 else afF TT.length i t.af := by unfold taskE; rw [htd]
  refine enter (X := cx 100) (cxg _) (args := [.agg #[.slice a n c, .slice a' n' c'], .int .i64 i]) [.tmp 4] Tryz.func113 rfl rfl rfl rfl rfl ?_
  intro b2
  refine idx (cxg _) (e := 64) rfl hT i rfl hi (fun b o cs hcs hR hcell => ?_)
  rw [← ht] at hR
  obtain ⟨a3, n3, c3, rfl, hs3⟩ := hR
  have l3 := hs3.len
  refine ldn (cxg _) (i := 0) rfl hcell rfl ?_
  intro b5
  refine callV _ (fun w' hm => name49_spec t.nm w' (by omega)) ?_
  refine bsplit (fun h => ?_) (fun h => ?_)
  · exact ⟨[], ⟨by rw [hE, if_pos (by simpa using h)], rfl⟩, fun w' h => h.pick [0] rfl rfl⟩
  have hE : taskE TT i = if (TT.take i).any (fun x => decide (x.nm = t.nm)) then 9 else if t.du < 1 ∨ t.du > 1048576 then 2
      else if t.tl ≠ ByteArray.empty ∧ nmOk t.tl = false then 11 else afF TT.length i t.af := by rw [hE, if_neg (by simpa using h)]
  refine NeedL.mk Nat (fun k => [(1, .v (.int .i64 i)), (2, .bx 1 0), (5, .bx 2 0), (6, .v (.int .i64 k))]) (fun _ => [.hp (Hp.whole w), .box b2 [.slice a n c, .slice a' n' c'] 25, .box b5 [.string t.nm, .int .i64 t.du, .string t.tl, .slice a3 n3 c3] 64])
    (fun k => k ≤ i ∧ ∀ j (hj : j < TT.length), j < k → decide (TT[j].nm = t.nm) = false) (fun k => i - k) 0 ⟨Nat.zero_le _, fun j _ hj => by omega⟩ (Ent.mk (fun _ _ h => h) rfl rfl) ?_
  rintro k ⟨hk, hno⟩
  refine bsplitd (fun h3 => ?_) (fun h3 => ?_)
  · have hkT : k < TT.length := by omega
    obtain ⟨y, hy⟩ : ∃ y, y = TT[k] := ⟨_, rfl⟩
    refine NeedD.by_order (cxg _) (.take 0 <| .take 1 <| .take 2 <| .take 3 <| .take 4 <| .take 5 <| .take 6 <| .take 7 <| .take 8 <| .done) (by kernel_rfl) ?_
    refine idx (cxg _) (e := 64) rfl hT k rfl hkT (fun b9 o9 cs hcs hR hcell4 => ?_)
    rw [← hy] at hR
    obtain ⟨a4, n4, c4, rfl, hs4⟩ := hR
    refine ld1 (cxg _) (i := 0) rfl (hcell4 0 _ rfl) rfl ?_
    refine qEqS ?_
    refine bsplitd (fun h5 => ?_) (fun h5 => ?_)
    · exact ⟨[], ⟨by rw [hE, if_pos (take_hit (k := k) (by omega) hkT (decide_eq_true (by rw [← hy]; exact h5)))], rfl⟩, fun w' h => h.pick [0] rfl rfl⟩
    · refine nw (by omega) (by omega) ?_
      refine ⟨k + 1, ⟨by omega, fun j hj hjk => ?_⟩, by omega, Ent.mk (fun _ _ h => h) rfl rfl⟩
      rcases Nat.lt_or_ge j k with h | h
      · exact hno j hj h
      · obtain rfl : j = k := by omega
        exact decide_eq_false (by rw [← hy]; exact h5)
  have hE : taskE TT i = if t.du < 1 ∨ t.du > 1048576 then 2 else if t.tl ≠ ByteArray.empty ∧ nmOk t.tl = false then 11 else afF TT.length i t.af := by rw [hE, if_neg (by rw [take_no fun j hj hji => hno j hj (by omega)]; simp)]
  have bad : (t.du < 1 ∨ t.du > 1048576) → taskE TT i = 2 := fun h => by rw [hE, if_pos h]
  refine bsplitd (fun h1 => ?_) (fun h1 => ?_)
  · exact ⟨[], ⟨by rw [bad (.inl h1)], rfl⟩, fun w' h => h.pick [0] rfl rfl⟩
  refine bsplitd (fun h2 => ?_) (fun h2 => ?_)
  · exact ⟨[], ⟨by rw [bad (.inr h2)], rfl⟩, fun w' h => h.pick [0] rfl rfl⟩
  have hE : taskE TT i = if t.tl ≠ ByteArray.empty ∧ nmOk t.tl = false then 11 else afF TT.length i t.af := by rw [hE, if_neg (by omega)]
  clear bad
  refine qNeS ?_
  refine bsplitd (fun h3 => ?_) (fun h3 => ?_)
  · refine callV _ (fun w' hm => name49_spec t.tl w' (by omega)) ?_
    refine bsplit (fun h => ?_) (fun h => ?_)
    · exact ⟨[], ⟨by rw [hE, if_pos ⟨h3, by simpa using h⟩], rfl⟩, fun w' h => h.pick [0] rfl rfl⟩
    have hE : taskE TT i = afF TT.length i t.af := by rw [hE, if_neg (fun g => by rw [g.2] at h; simp at h)]
    have hfe : afF TT.length i t.af = (firstE (afE TT.length i t.af) t.af.length).getD 0 := rfl
    refine NeedL.mk Nat (fun k => [(1, .v (.int .i64 i)), (2, .bx 1 0), (5, .bx 2 0), (7, .v (.int .i64 k))]) (fun _ => [.hp (Hp.whole w), .box b2 [.slice a n c, .slice a' n' c'] 25, .box b5 [.string t.nm, .int .i64 t.du, .string t.tl, .slice a3 n3 c3] 64])
      (fun k => k ≤ n3 ∧ ∀ j, j < k → afE TT.length i t.af j = 0) (fun k => n3 - k) 0 ⟨Nat.zero_le _, fun j hj => by omega⟩ (Ent.mk (fun _ _ h => h) rfl rfl) ?_
    rintro k ⟨hk, ho⟩
    refine bsplitd (fun hlt => ?_) (fun hge => ?_)
    · have hlt' : k < t.af.length := by omega
      obtain ⟨x, hx⟩ : ∃ x, x = t.af[k] := ⟨_, rfl⟩
      have hke : afE TT.length i t.af k = if x < 0 ∨ x ≥ (TT.length : Int) then 2 else if x = i then 17 else if 0 < k ∧ t.af.getD (k - 1) 0 ≥ x then 8 else 0 := by
        unfold afE; rw [List.getElem?_eq_getElem hlt', ← hx]
      have hit : afE TT.length i t.af k ≠ 0 → taskE TT i = afE TT.length i t.af k := fun h => by rw [hE, hfe, firstE_hit hlt' ho h]; rfl
      refine NeedD.cut Bool (fun g => [(1, .v (.int .i64 i)), (2, .bx 1 0), (5, .bx 2 0), (7, .v (.int .i64 k)), (57, .v (.bool g))]) (fun _ => [.hp (Hp.whole w), .box b2 [.slice a n c, .slice a' n' c'] 25, .box b5 [.string t.nm, .int .i64 t.du, .string t.tl, .slice a3 n3 c3] 64]) (fun g => g = decide (x < 0 ∨ x ≥ (TT.length : Int))) (NeedD.by_order (cxg _) (.take 0 <| .take 1 <| .take 2 <| .take 3 <| .take 4 <| .take 5 <| .take 6 <| .take 7 <| .take 8 <| .take 9 <| .take 10 <| .take 11 <| .take 12 <| .take 13 <| .take 14 <| .take 15 <| .take 16 <| .take 17 <| .done) (by kernel_rfl) ?_) ?_
      · refine idx (cxg _) (e := 3) rfl hs3 k rfl hlt' (fun b9 o9 cs hcs hR hcell11 => ?_)
        subst hR
        rw [← hx] at hcell11
        refine ld1 (cxg _) (i := 0) rfl (hcell11 0 _ rfl) rfl ?_
        refine bsplitd (fun g1 => ?_) (fun g1 => ?_)
        · exact ⟨true, (decide_eq_true (.inl g1)).symm, Ent.mk (fun _ _ h => h) rfl rfl⟩
        · refine idx (cxg _) (e := 3) rfl hs3 k rfl hlt' (fun b9 o9 cs hcs hR hcell13 => ?_)
          subst hR
          rw [← hx] at hcell13
          refine ld1 (cxg _) (i := 0) rfl (hcell13 0 _ rfl) rfl ?_
          exact ⟨decide (x ≥ (n : Int)), decide_eq_decide.2 (by omega), Ent.mk (fun _ _ h => h) rfl rfl⟩
      rintro g hg hsat
      dsimp only
      refine bsplit (fun g2 => ?_) (fun g2 => ?_)
      · rw [hg, decide_eq_true_eq] at g2
        have e : afE TT.length i t.af k = 2 := by rw [hke, if_pos g2]
        exact ⟨[], ⟨by rw [hit (by rw [e]; decide), e], rfl⟩, fun w' h => h.pick [0] rfl rfl⟩
      rw [hg, decide_eq_false_iff_not] at g2
      have hke : afE TT.length i t.af k = if x = i then 17 else if 0 < k ∧ t.af.getD (k - 1) 0 ≥ x then 8 else 0 := by rw [hke, if_neg g2]
      refine idx (cxg _) (e := 3) rfl hs3 k rfl hlt' (fun b9 o9 cs hcs hR hcell15 => ?_)
      subst hR
      rw [← hx] at hcell15
      refine ld1 (cxg _) (i := 0) rfl (hcell15 0 _ rfl) rfl ?_
      refine bsplitd (fun g3 => ?_) (fun g3 => ?_)
      · have e : afE TT.length i t.af k = 17 := by rw [hke, if_pos g3]
        exact ⟨[], ⟨by rw [hit (by rw [e]; decide), e], rfl⟩, fun w' h => h.pick [0] rfl rfl⟩
      have hke : afE TT.length i t.af k = if 0 < k ∧ t.af.getD (k - 1) 0 ≥ x then 8 else 0 := by rw [hke, if_neg g3]
      refine NeedD.cut Bool (fun g => [(1, .v (.int .i64 i)), (2, .bx 1 0), (5, .bx 2 0), (7, .v (.int .i64 k)), (83, .v (.bool g))]) (fun _ => [.hp (Hp.whole w), .box b2 [.slice a n c, .slice a' n' c'] 25, .box b5 [.string t.nm, .int .i64 t.du, .string t.tl, .slice a3 n3 c3] 64]) (fun g => g = decide (0 < k ∧ t.af.getD (k - 1) 0 ≥ x)) (NeedD.by_order (cxg _) (.take 0 <| .take 1 <| .take 2 <| .take 3 <| .take 4 <| .take 5 <| .take 6 <| .take 7 <| .take 8 <| .take 9 <| .take 10 <| .take 11 <| .take 12 <| .take 13 <| .take 14 <| .take 15 <| .take 16 <| .done) (by kernel_rfl) ?_) ?_
      · refine bsplitd (fun g4 => ?_) (fun g4 => ?_)
        · have hk1 : k - 1 < t.af.length := by omega
          have hgd : t.af.getD (k - 1) 0 = t.af[k - 1] := by rw [List.getD_eq_getElem?_getD, List.getElem?_eq_getElem hk1]; rfl
          refine idx (cxg _) (e := 3) rfl hs3 k rfl hlt' (fun b9 o9 cs hcs hR hcell18 => ?_)
          subst hR
          rw [← hx] at hcell18
          refine ld1 (cxg _) (i := 0) rfl (hcell18 0 _ rfl) rfl ?_
          refine nw (by omega) (by omega) ?_
          refine idx (cxg _) (e := 3) rfl hs3 (k - 1) (by omega) hk1 (fun b9 o9 cs hcs hR hcell19 => ?_)
          subst hR
          refine ld1 (cxg _) (i := 0) rfl (hcell19 0 _ rfl) rfl ?_
          exact ⟨decide (x ≤ t.af[k - 1]), decide_eq_decide.2 (by rw [hgd]; omega), Ent.mk (fun _ _ h => h) rfl rfl⟩
        · exact ⟨false, (decide_eq_false (fun g => by omega)).symm, Ent.mk (fun _ _ h => h) rfl rfl⟩
      rintro g hg hsat
      dsimp only
      refine bsplit (fun g5 => ?_) (fun g5 => ?_)
      · rw [hg, decide_eq_true_eq] at g5
        have e : afE TT.length i t.af k = 8 := by rw [hke, if_pos g5]
        exact ⟨[], ⟨by rw [hit (by rw [e]; decide), e], rfl⟩, fun w' h => h.pick [0] rfl rfl⟩
      · rw [hg, decide_eq_false_iff_not] at g5
        have e : afE TT.length i t.af k = 0 := by rw [hke, if_neg g5]
        refine nw (by omega) (by omega) ?_
        exact ⟨k + 1, ⟨by omega, fun j hj => by
          rcases Nat.lt_or_ge j k with h | h
          · exact ho j h
          · have : j = k := by omega
            subst this; exact e⟩, by omega, Ent.mk (fun _ _ h => h) rfl rfl⟩
    · have e : afF TT.length i t.af = 0 := by rw [hfe, firstE_none fun j hj => ho j (by omega)]; rfl
      exact ⟨[], ⟨by rw [hE, e], rfl⟩, fun w' h => h.pick [0] rfl rfl⟩
  · have hE : taskE TT i = afF TT.length i t.af := by rw [hE, if_neg (fun g => h3 g.1)]
    have hfe : afF TT.length i t.af = (firstE (afE TT.length i t.af) t.af.length).getD 0 := rfl
    refine NeedL.mk Nat (fun k => [(1, .v (.int .i64 i)), (2, .bx 1 0), (5, .bx 2 0), (7, .v (.int .i64 k))]) (fun _ => [.hp (Hp.whole w), .box b2 [.slice a n c, .slice a' n' c'] 25, .box b5 [.string t.nm, .int .i64 t.du, .string t.tl, .slice a3 n3 c3] 64])
      (fun k => k ≤ n3 ∧ ∀ j, j < k → afE TT.length i t.af j = 0) (fun k => n3 - k) 0 ⟨Nat.zero_le _, fun j hj => by omega⟩ (Ent.mk (fun _ _ h => h) rfl rfl) ?_
    rintro k ⟨hk, ho⟩
    refine bsplitd (fun hlt => ?_) (fun hge => ?_)
    · have hlt' : k < t.af.length := by omega
      obtain ⟨x, hx⟩ : ∃ x, x = t.af[k] := ⟨_, rfl⟩
      have hke : afE TT.length i t.af k = if x < 0 ∨ x ≥ (TT.length : Int) then 2 else if x = i then 17 else if 0 < k ∧ t.af.getD (k - 1) 0 ≥ x then 8 else 0 := by
        unfold afE; rw [List.getElem?_eq_getElem hlt', ← hx]
      have hit : afE TT.length i t.af k ≠ 0 → taskE TT i = afE TT.length i t.af k := fun h => by rw [hE, hfe, firstE_hit hlt' ho h]; rfl
      refine NeedD.cut Bool (fun g => [(1, .v (.int .i64 i)), (2, .bx 1 0), (5, .bx 2 0), (7, .v (.int .i64 k)), (57, .v (.bool g))]) (fun _ => [.hp (Hp.whole w), .box b2 [.slice a n c, .slice a' n' c'] 25, .box b5 [.string t.nm, .int .i64 t.du, .string t.tl, .slice a3 n3 c3] 64]) (fun g => g = decide (x < 0 ∨ x ≥ (TT.length : Int))) (NeedD.by_order (cxg _) (.take 0 <| .take 1 <| .take 2 <| .take 3 <| .take 4 <| .take 5 <| .take 6 <| .take 7 <| .take 8 <| .take 9 <| .take 10 <| .take 11 <| .take 12 <| .take 13 <| .take 14 <| .take 15 <| .take 16 <| .take 17 <| .done) (by kernel_rfl) ?_) ?_
      · refine idx (cxg _) (e := 3) rfl hs3 k rfl hlt' (fun b9 o9 cs hcs hR hcell11 => ?_)
        subst hR
        rw [← hx] at hcell11
        refine ld1 (cxg _) (i := 0) rfl (hcell11 0 _ rfl) rfl ?_
        refine bsplitd (fun g1 => ?_) (fun g1 => ?_)
        · exact ⟨true, (decide_eq_true (.inl g1)).symm, Ent.mk (fun _ _ h => h) rfl rfl⟩
        · refine idx (cxg _) (e := 3) rfl hs3 k rfl hlt' (fun b9 o9 cs hcs hR hcell13 => ?_)
          subst hR
          rw [← hx] at hcell13
          refine ld1 (cxg _) (i := 0) rfl (hcell13 0 _ rfl) rfl ?_
          exact ⟨decide (x ≥ (n : Int)), decide_eq_decide.2 (by omega), Ent.mk (fun _ _ h => h) rfl rfl⟩
      rintro g hg hsat
      dsimp only
      refine bsplit (fun g2 => ?_) (fun g2 => ?_)
      · rw [hg, decide_eq_true_eq] at g2
        have e : afE TT.length i t.af k = 2 := by rw [hke, if_pos g2]
        exact ⟨[], ⟨by rw [hit (by rw [e]; decide), e], rfl⟩, fun w' h => h.pick [0] rfl rfl⟩
      rw [hg, decide_eq_false_iff_not] at g2
      have hke : afE TT.length i t.af k = if x = i then 17 else if 0 < k ∧ t.af.getD (k - 1) 0 ≥ x then 8 else 0 := by rw [hke, if_neg g2]
      refine idx (cxg _) (e := 3) rfl hs3 k rfl hlt' (fun b9 o9 cs hcs hR hcell15 => ?_)
      subst hR
      rw [← hx] at hcell15
      refine ld1 (cxg _) (i := 0) rfl (hcell15 0 _ rfl) rfl ?_
      refine bsplitd (fun g3 => ?_) (fun g3 => ?_)
      · have e : afE TT.length i t.af k = 17 := by rw [hke, if_pos g3]
        exact ⟨[], ⟨by rw [hit (by rw [e]; decide), e], rfl⟩, fun w' h => h.pick [0] rfl rfl⟩
      have hke : afE TT.length i t.af k = if 0 < k ∧ t.af.getD (k - 1) 0 ≥ x then 8 else 0 := by rw [hke, if_neg g3]
      refine NeedD.cut Bool (fun g => [(1, .v (.int .i64 i)), (2, .bx 1 0), (5, .bx 2 0), (7, .v (.int .i64 k)), (83, .v (.bool g))]) (fun _ => [.hp (Hp.whole w), .box b2 [.slice a n c, .slice a' n' c'] 25, .box b5 [.string t.nm, .int .i64 t.du, .string t.tl, .slice a3 n3 c3] 64]) (fun g => g = decide (0 < k ∧ t.af.getD (k - 1) 0 ≥ x)) (NeedD.by_order (cxg _) (.take 0 <| .take 1 <| .take 2 <| .take 3 <| .take 4 <| .take 5 <| .take 6 <| .take 7 <| .take 8 <| .take 9 <| .take 10 <| .take 11 <| .take 12 <| .take 13 <| .take 14 <| .take 15 <| .take 16 <| .done) (by kernel_rfl) ?_) ?_
      · refine bsplitd (fun g4 => ?_) (fun g4 => ?_)
        · have hk1 : k - 1 < t.af.length := by omega
          have hgd : t.af.getD (k - 1) 0 = t.af[k - 1] := by rw [List.getD_eq_getElem?_getD, List.getElem?_eq_getElem hk1]; rfl
          refine idx (cxg _) (e := 3) rfl hs3 k rfl hlt' (fun b9 o9 cs hcs hR hcell18 => ?_)
          subst hR
          rw [← hx] at hcell18
          refine ld1 (cxg _) (i := 0) rfl (hcell18 0 _ rfl) rfl ?_
          refine nw (by omega) (by omega) ?_
          refine idx (cxg _) (e := 3) rfl hs3 (k - 1) (by omega) hk1 (fun b9 o9 cs hcs hR hcell19 => ?_)
          subst hR
          refine ld1 (cxg _) (i := 0) rfl (hcell19 0 _ rfl) rfl ?_
          exact ⟨decide (x ≤ t.af[k - 1]), decide_eq_decide.2 (by rw [hgd]; omega), Ent.mk (fun _ _ h => h) rfl rfl⟩
        · exact ⟨false, (decide_eq_false (fun g => by omega)).symm, Ent.mk (fun _ _ h => h) rfl rfl⟩
      rintro g hg hsat
      dsimp only
      refine bsplit (fun g5 => ?_) (fun g5 => ?_)
      · rw [hg, decide_eq_true_eq] at g5
        have e : afE TT.length i t.af k = 8 := by rw [hke, if_pos g5]
        exact ⟨[], ⟨by rw [hit (by rw [e]; decide), e], rfl⟩, fun w' h => h.pick [0] rfl rfl⟩
      · rw [hg, decide_eq_false_iff_not] at g5
        have e : afE TT.length i t.af k = 0 := by rw [hke, if_neg g5]
        refine nw (by omega) (by omega) ?_
        exact ⟨k + 1, ⟨by omega, fun j hj => by
          rcases Nat.lt_or_ge j k with h | h
          · exact ho j h
          · have : j = k := by omega
            subst this; exact e⟩, by omega, Ent.mk (fun _ _ h => h) rfl rfl⟩
    · have e : afF TT.length i t.af = 0 := by rw [hfe, firstE_none fun j hj => ho j (by omega)]; rfl
      exact ⟨[], ⟨by rw [hE, e], rfl⟩, fun w' h => h.pick [0] rfl rfl⟩
set_option maxRecDepth 10000 in
theorem checkStation49_spec (i : Nat) (w : World) (hS : Sl encN 2 (Hp.whole w) a' n' c' SS) (hs : Sml TT SS) (hb : StB TT SS) (hi : i < SS.length) :
    CallsE Tryz.prog 116 #[sv a n c a' n' c', .int .i64 i] w (RetV w (.int .i64 (statE SS i))) := by
  have hlen := hS.len
  have hn := hs.m
  obtain ⟨t, ht⟩ : ∃ t, t = SS[i] := ⟨_, rfl⟩
  have htm : t ∈ SS := by rw [ht]; exact List.getElem_mem hi
  have htl : t.ts.length < 1000 := hs.s _ htm
  have htb := hb.s _ htm
  have htd : SS.getD i default = t := by rw [List.getD_eq_getElem?_getD, List.getElem?_eq_getElem hi, ht]; rfl
  have hE : statE SS i = if nmOk t.nm = false then 11 else if (SS.take i).any (fun x => decide (x.nm = t.nm)) then 9 else if t.ts.length > 16 then 6 else tlF t.ts := by unfold statE; rw [htd]
  refine enter (X := cx 65) (cxg _) (args := [.agg #[.slice a n c, .slice a' n' c'], .int .i64 i]) [.tmp 4] Tryz.func116 rfl rfl rfl rfl rfl ?_
  intro b2
  refine idx (cxg _) (e := 60) rfl hS i rfl hi (fun b o cs hcs hR hcell => ?_)
  rw [← ht] at hR
  obtain ⟨a3, n3, c3, rfl, hs3⟩ := hR
  have l3 := hs3.len
  refine ldn (cxg _) (i := 0) rfl hcell rfl ?_
  intro b5
  refine callV _ (fun w' hm => name49_spec t.nm w' (by omega)) ?_
  refine bsplit (fun h => ?_) (fun h => ?_)
  · exact ⟨[], ⟨by rw [hE, if_pos (by simpa using h)], rfl⟩, fun w' h => h.pick [0] rfl rfl⟩
  have hE : statE SS i = if (SS.take i).any (fun x => decide (x.nm = t.nm)) then 9 else if t.ts.length > 16 then 6 else tlF t.ts := by rw [hE, if_neg (by simpa using h)]
  refine NeedL.mk Nat (fun k => [(1, .v (.int .i64 i)), (2, .bx 1 0), (5, .bx 2 0), (6, .v (.int .i64 k))]) (fun _ => [.hp (Hp.whole w), .box b2 [.slice a n c, .slice a' n' c'] 25, .box b5 [.string t.nm, .slice a3 n3 c3] 60])
    (fun k => k ≤ i ∧ ∀ j (hj : j < SS.length), j < k → decide (SS[j].nm = t.nm) = false) (fun k => i - k) 0 ⟨Nat.zero_le _, fun j _ hj => by omega⟩ (Ent.mk (fun _ _ h => h) rfl rfl) ?_
  rintro k ⟨hk, hno⟩
  refine bsplitd (fun h3 => ?_) (fun h3 => ?_)
  · have hkT : k < SS.length := by omega
    obtain ⟨y, hy⟩ : ∃ y, y = SS[k] := ⟨_, rfl⟩
    refine NeedD.by_order (cxg _) (.take 0 <| .take 1 <| .take 2 <| .take 3 <| .take 4 <| .take 5 <| .take 6 <| .take 7 <| .take 8 <| .done) (by kernel_rfl) ?_
    refine idx (cxg _) (e := 60) rfl hS k rfl hkT (fun b9 o9 cs hcs hR hcell4 => ?_)
    rw [← hy] at hR
    obtain ⟨a4, n4, c4, rfl, hs4⟩ := hR
    refine ld1 (cxg _) (i := 0) rfl (hcell4 0 _ rfl) rfl ?_
    refine qEqS ?_
    refine bsplitd (fun h5 => ?_) (fun h5 => ?_)
    · exact ⟨[], ⟨by rw [hE, if_pos (take_hit (k := k) (by omega) hkT (decide_eq_true (by rw [← hy]; exact h5)))], rfl⟩, fun w' h => h.pick [0] rfl rfl⟩
    · refine nw (by omega) (by omega) ?_
      refine ⟨k + 1, ⟨by omega, fun j hj hjk => ?_⟩, by omega, Ent.mk (fun _ _ h => h) rfl rfl⟩
      rcases Nat.lt_or_ge j k with h | h
      · exact hno j hj h
      · obtain rfl : j = k := by omega
        exact decide_eq_false (by rw [← hy]; exact h5)
  have hE : statE SS i = if t.ts.length > 16 then 6 else tlF t.ts := by rw [hE, if_neg (by rw [take_no fun j hj hji => hno j hj (by omega)]; simp)]
  refine bsplitd (fun h1 => ?_) (fun h1 => ?_)
  · exact ⟨[], ⟨by rw [hE, if_pos (by omega)], rfl⟩, fun w' h => h.pick [0] rfl rfl⟩
  have hE : statE SS i = tlF t.ts := by rw [hE, if_neg (by omega)]
  have hfe : tlF t.ts = (firstE (tlE t.ts) t.ts.length).getD 0 := rfl
  refine NeedL.mk Nat (fun k => [(5, .bx 2 0), (7, .v (.int .i64 k))]) (fun _ => [.hp (Hp.whole w), .box b2 [.slice a n c, .slice a' n' c'] 25, .box b5 [.string t.nm, .slice a3 n3 c3] 60])
    (fun k => k ≤ n3 ∧ ∀ j, j < k → tlE t.ts j = 0) (fun k => n3 - k) 0 ⟨Nat.zero_le _, fun j hj => by omega⟩ (Ent.mk (fun _ _ h => h) rfl rfl) ?_
  rintro k ⟨hk, ho⟩
  refine bsplitd (fun hlt => ?_) (fun hge => ?_)
  · have hlt' : k < t.ts.length := by omega
    obtain ⟨x, hx⟩ : ∃ x, x = t.ts[k] := ⟨_, rfl⟩
    have hxb : x.size ≤ 50 := htb.2 x (by rw [hx]; exact List.getElem_mem hlt')
    have hke : tlE t.ts k = if nmOk x = false then 11 else if 0 < k ∧ sLt (t.ts.getD (k - 1) ByteArray.empty) x = false then 8 else 0 := by
      unfold tlE; rw [List.getElem?_eq_getElem hlt', ← hx]
    have hit : tlE t.ts k ≠ 0 → statE SS i = tlE t.ts k := fun h => by rw [hE, hfe, firstE_hit hlt' ho h]; rfl
    refine idx (cxg _) (e := 9) rfl hs3 k rfl hlt' (fun b9 o9 cs hcs hR hcell8 => ?_)
    subst hR
    rw [← hx] at hcell8
    refine ld1 (cxg _) (i := 0) rfl (hcell8 0 _ rfl) rfl ?_
    refine callV _ (fun w' hm => name49_spec x w' (by omega)) ?_
    refine bsplit (fun h => ?_) (fun h => ?_)
    · have e : tlE t.ts k = 11 := by rw [hke, if_pos (by simpa using h)]
      exact ⟨[], ⟨by rw [hit (by rw [e]; decide), e], rfl⟩, fun w' h => h.pick [0] rfl rfl⟩
    have hke : tlE t.ts k = if 0 < k ∧ sLt (t.ts.getD (k - 1) ByteArray.empty) x = false then 8 else 0 := by rw [hke, if_neg (by simpa using h)]
    refine NeedD.cut Bool (fun g => [(5, .bx 2 0), (7, .v (.int .i64 k)), (64, .v (.bool g))]) (fun _ => [.hp (Hp.whole w), .box b2 [.slice a n c, .slice a' n' c'] 25, .box b5 [.string t.nm, .slice a3 n3 c3] 60]) (fun g => g = decide (0 < k ∧ sLt (t.ts.getD (k - 1) ByteArray.empty) x = false)) (NeedD.by_order (cxg _) (.take 0 <| .take 1 <| .take 2 <| .take 3 <| .take 4 <| .take 5 <| .take 6 <| .take 7 <| .take 8 <| .take 9 <| .take 10 <| .take 11 <| .take 12 <| .take 13 <| .take 14 <| .take 15 <| .done) (by kernel_rfl) ?_) ?_
    · refine bsplitd (fun g4 => ?_) (fun g4 => ?_)
      · have hk1 : k - 1 < t.ts.length := by omega
        have hgd : t.ts.getD (k - 1) ByteArray.empty = t.ts[k - 1] := by rw [List.getD_eq_getElem?_getD, List.getElem?_eq_getElem hk1]; rfl
        refine idx (cxg _) (e := 9) rfl hs3 k rfl hlt' (fun b9 o9 cs hcs hR hcell11 => ?_)
        subst hR
        rw [← hx] at hcell11
        refine ld1 (cxg _) (i := 0) rfl (hcell11 0 _ rfl) rfl ?_
        refine nw (by omega) (by omega) ?_
        refine idx (cxg _) (e := 9) rfl hs3 (k - 1) (by omega) hk1 (fun b9 o9 cs hcs hR hcell12 => ?_)
        subst hR
        refine ld1 (cxg _) (i := 0) rfl (hcell12 0 _ rfl) rfl ?_
        refine qLeS ?_
        refine ⟨sLt x t.ts[k - 1] || decide (x = t.ts[k - 1]), ?_, Ent.mk (fun _ _ h => h) rfl rfl⟩
        rw [sLe_not, hgd]
        cases sLt t.ts[k - 1] x with
        | true => rw [decide_eq_false (by simp)]; rfl
        | false => rw [decide_eq_true ⟨by omega, rfl⟩]; rfl
      · exact ⟨false, (decide_eq_false (fun g => by omega)).symm, Ent.mk (fun _ _ h => h) rfl rfl⟩
    rintro g hg hsat
    dsimp only
    refine bsplit (fun g5 => ?_) (fun g5 => ?_)
    · rw [hg, decide_eq_true_eq] at g5
      have e : tlE t.ts k = 8 := by rw [hke, if_pos g5]
      exact ⟨[], ⟨by rw [hit (by rw [e]; decide), e], rfl⟩, fun w' h => h.pick [0] rfl rfl⟩
    · rw [hg, decide_eq_false_iff_not] at g5
      have e : tlE t.ts k = 0 := by rw [hke, if_neg g5]
      refine nw (by omega) (by omega) ?_
      exact ⟨k + 1, ⟨by omega, fun j hj => by
        rcases Nat.lt_or_ge j k with h | h
        · exact ho j h
        · have : j = k := by omega
          subst this; exact e⟩, by omega, Ent.mk (fun _ _ h => h) rfl rfl⟩
  · have e : tlF t.ts = 0 := by rw [hfe, firstE_none fun j hj => ho j (by omega)]; rfl
    exact ⟨[], ⟨by rw [hE, e], rfl⟩, fun w' h => h.pick [0] rfl rfl⟩
end
end Go.Proofs.YtnlkffccobdbjaaGreat
