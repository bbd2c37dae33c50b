/- Contracts of the model of layer 49: edges, check, Check. Their premises are their own. -/
import Derived.Test.YtnlkffccobdbjaaGreatYXc
import Derived.Test.YtnlkffccobdbjaaGreatXE
namespace Go.Proofs.YtnlkffccobdbjaaGreat
open Go Go.RowKit Go.Dw
def edT (i : Nat) (t : Tk) : List (Int × Int) := t.af.map fun k => (k, (i : Int))
def edK (TT : List Tk) (k : Nat) : List (Int × Int) := (List.range k).flatMap fun i => edT i (TT.getD i default)
theorem edK_succ {TT : List Tk} {k : Nat} (hk : k < TT.length) : edK TT (k + 1) = edK TT k ++ edT k TT[k] := by
  unfold edK
  rw [List.range_succ, List.flatMap_append, List.flatMap_cons, List.flatMap_nil, List.append_nil, tk_get hk]
theorem edK_len {TT : List Tk} (ha : ∀ t ∈ TT, t.af.length < 1000) : ∀ k, k ≤ TT.length → (edK TT k).length ≤ 1000 * k
  | 0, _ => Nat.le_refl _
  | k + 1, h => by
    have ih := edK_len ha k (by omega)
    have := ha _ (List.getElem_mem (show k < TT.length by omega))
    rw [edK_succ (by omega), List.length_append]
    unfold edT
    rw [List.length_map]
    omega
theorem edK_mem {TT : List Tk} {e : Int × Int} : e ∈ edK TT TT.length ↔ ∃ i, ∃ h : i < TT.length, e.2 = (i : Int) ∧ e.1 ∈ TT[i].af := by
  unfold edK edT
  simp only [List.mem_flatMap, List.mem_range, List.mem_map]
  constructor
  · rintro ⟨i, hi, k, hk, rfl⟩
    rw [tk_get hi] at hk
    exact ⟨i, hi, rfl, hk⟩
  · rintro ⟨i, hi, h2, h1⟩
    exact ⟨i, hi, e.1, by rw [tk_get hi]; exact h1, by rw [← h2]⟩
theorem natL_mem {L : List Nat} {v : Nat} : (v : Int) ∈ natL L ↔ v ∈ L := by
  unfold natL
  rw [List.mem_map]
  exact ⟨fun ⟨x, hx, e⟩ => by rw [← Int.ofNat_inj.1 e]; exact hx, fun h => ⟨v, h, rfl⟩⟩
theorem find_congr {α : Type} {p q : α → Bool} : ∀ {L : List α}, (∀ x ∈ L, p x = q x) → L.find? p = L.find? q
  | [], _ => rfl
  | x :: L, h => by
    rw [List.find?_cons, List.find?_cons, h x (by simp), find_congr fun y hy => h y (by simp [hy])]
theorem rdy_edges {TT : List Tk} (haf : ∀ t ∈ TT, ∀ x ∈ t.af, 0 ≤ x ∧ x < (TT.length : Int)) {E : List (Int × Int)} (hE : ∀ e, e ∈ E ↔ e ∈ edK TT TT.length) (D : List Nat) {v : Nat} (hv : v < TT.length) : rdy E (natL D) v = rdyT TT D v := by
  unfold rdy rdyT
  rw [tk_get hv]
  have e1 : decide ((v : Int) ∈ natL D) = decide (v ∈ D) := decide_eq_decide.2 natL_mem
  rw [e1]
  refine congrArg (fun b => !decide (v ∈ D) && b) ?_
  rw [Bool.eq_iff_iff, List.all_eq_true, List.all_eq_true]
  constructor
  · intro h x hx
    have hr := haf _ (List.getElem_mem hv) x hx
    have := h (x, (v : Int)) ((hE _).2 (edK_mem.2 ⟨v, hv, rfl, hx⟩))
    rw [Bool.or_eq_true] at this
    rcases this with h1 | h1
    · simp at h1
    · rw [decide_eq_true_eq] at h1 ⊢
      have e2 : x = ((x.toNat : Nat) : Int) := by omega
      dsimp only at h1
      rw [e2] at h1
      exact natL_mem.1 h1
  · intro h e he
    obtain ⟨i, hi, h2, h1⟩ := edK_mem.1 ((hE _).1 he)
    rw [Bool.or_eq_true]
    by_cases hiv : i = v
    · subst hiv
      have hr := haf _ (List.getElem_mem hv) _ h1
      have := of_decide_eq_true (h _ h1)
      right
      have e2 : e.1 = ((e.1.toNat : Nat) : Int) := by omega
      rw [decide_eq_true_eq, e2]
      exact natL_mem.2 this
    · left
      rw [h2]
      simp
      omega
theorem ord_link {TT : List Tk} (haf : ∀ t ∈ TT, ∀ x ∈ t.af, 0 ≤ x ∧ x < (TT.length : Int)) {E : List (Int × Int)} (hE : ∀ e, e ∈ E ↔ e ∈ edK TT TT.length) :
    ∀ i, ordK TT.length E i = if (ordT TT i).length = i then some (natL (ordT TT i)) else none
  | 0 => rfl
  | i + 1 => by
    have ih := ord_link haf hE i
    have hl := (ordT_fine TT i).2.2
    unfold ordK ordT
    rw [ih]
    by_cases h : (ordT TT i).length = i
    · rw [if_pos h]
      dsimp only
      rw [find_congr (q := rdyT TT (ordT TT i)) fun v hv => rdy_edges haf hE _ (List.mem_range.1 hv)]
      show (match nxtT TT (ordT TT i) with | none => none | some k => some (natL (ordT TT i) ++ [(k : Int)])) = _
      cases nxtT TT (ordT TT i) with
      | none => dsimp only; rw [if_neg (by omega)]
      | some k =>
        dsimp only
        rw [if_pos (by simp [h])]
        unfold natL
        simp
    · rw [if_neg h]
      dsimp only
      cases nxtT TT (ordT TT i) with
      | none => dsimp only; rw [if_neg (by omega)]
      | some k =>
        dsimp only
        rw [if_neg (by simp; omega)]
theorem edK_make {TT : List Tk} (haf : ∀ t ∈ TT, ∀ x ∈ t.af, 0 ≤ x ∧ x < (TT.length : Int)) (hn : TT.length ≤ 64) : makeR TT.length (edK TT TT.length) = ((TT.length : Int), dd (sortF (edK TT TT.length)), 0) := by
  unfold makeR
  rw [if_neg (by omega), if_neg]
  rw [Bool.not_eq_true, List.any_eq_false]
  intro e he
  obtain ⟨i, hi, h2, h1⟩ := edK_mem.1 he
  have := haf _ (List.getElem_mem hi) _ h1
  unfold outF beyondF
  rw [h2]
  simp
  omega
theorem ordC_edges {TT : List Tk} (haf : ∀ t ∈ TT, ∀ x ∈ t.af, 0 ≤ x ∧ x < (TT.length : Int)) (hn : TT.length ≤ 64) : ordC TT.length (dd (sortF (edK TT TT.length))) = if (ordF TT).length < TT.length then 30 else 0 := by
  have hm := edK_make haf hn
  have hc := make_check (N := TT.length) (E := edK TT TT.length) (by rw [hm])
  rw [hm] at hc
  have hl := (ordT_fine TT TT.length).2.2
  unfold ordC
  rw [if_pos hc]
  rw [Int.toNat_natCast, ord_link haf fun e => by rw [dd_mem, sortF_mem]]
  unfold ordF
  by_cases h : (ordT TT TT.length).length = TT.length
  · rw [if_pos h, if_neg (by omega)]
  · rw [if_neg h, if_pos (by omega)]
theorem abl_none {TT : List Tk} {SS : List Sn} {i : Nat} (hi : i < TT.length) : ((ablK TT SS i SS.length).length = 0) ↔ SS.any (canS TT[i].tl) = false := by
  unfold ablK natL
  rw [List.length_map, List.length_eq_zero_iff, List.filter_eq_nil_iff, List.any_eq_false]
  constructor
  · intro h s hs
    obtain ⟨k, hk, rfl⟩ := List.mem_iff_getElem.1 hs
    have := h k (List.mem_range.2 hk)
    unfold caA at this
    rw [tk_get hi, gD hk] at this
    exact this
  · intro h k hk
    have hk := List.mem_range.1 hk
    have := h _ (List.getElem_mem hk)
    unfold caA
    rw [tk_get hi, gD hk]
    exact this
section
variable {a a' : Option Addr} {n c n' c' : Nat} {TT : List Tk} {SS : List Sn}
set_option maxRecDepth 10000 in
theorem edges_spec (w : World) (hT : Sl encT 4 (Hp.whole w) a n c TT) (hs : Sml TT SS) (haf : ∀ t ∈ TT, ∀ x ∈ t.af, 0 ≤ x ∧ x < (TT.length : Int)) (hn : TT.length ≤ 64) :
    CallsE Tryz.prog 115 #[sv a n c a' n' c'] w (Ret w fun v cs => ∃ o : Dw.Os, v = .agg #[.int .i64 TT.length, o.v] ∧ cs = [.hp o.h] ∧ OwnO fE 164 2 o (dd (sortF (edK TT TT.length)))) := by
  have lT := hT.len
  refine enter (X := cx 43) (cxg _) (args := [.agg #[.slice a n c, .slice a' n' c']]) [.cell 2 134] Tryz.func115 rfl rfl rfl rfl rfl ?_
  intro b1
  intro b2
  refine NeedL.mk (Nat × Dw.Os) (fun g => [(1, .bx 1 0), (2, .bx 2 0), (3, .v g.2.v), (4, .v (.int .i64 g.1))]) (fun g => [.hp (Hp.whole w), .box b1 [.slice a n c, .slice a' n' c'] 25, .box b2 [.int .i64 0, .slice none 0 0] 134, .hp g.2.h])
    (fun g => g.1 ≤ n ∧ OwnO fE 164 2 g.2 (edK TT g.1)) (fun g => n - g.1) (0, Os.nil) ⟨Nat.zero_le _, OwnO.nil _ _ _⟩ (Ent.mk (fun _ _ h => h.emp) rfl rfl) ?_
  rintro ⟨k, o⟩ ⟨hk, ho⟩
  dsimp only at *
  refine bsplitd (fun h1 => ?_) (fun h1 => ?_)
  · have hkT : k < TT.length := by omega
    have hEs := edK_succ hkT
    have hEl := edK_len hs.a k (by omega)
    obtain ⟨t, ht⟩ : ∃ t, t = TT[k] := ⟨_, rfl⟩
    have hta := hs.a t (by rw [ht]; exact List.getElem_mem hkT)
    rw [← ht] at hEs
    refine idx (cxg _) (e := 64) rfl hT k rfl hkT (fun b9 o9 cs hcs hR hcell2 => ?_)
    rw [← ht] at hR
    obtain ⟨a3, n3, c3, rfl, hs3⟩ := hR
    have l3 := hs3.len
    refine ld1 (cxg _) (i := 0) rfl (hcell2 3 _ rfl) rfl ?_
    refine NeedL.mk (Nat × Dw.Os) (fun g => [(1, .bx 1 0), (2, .bx 2 0), (3, .v g.2.v), (4, .v (.int .i64 k)), (21, .v (.slice a3 n3 c3)), (22, .v (.int .i64 n3)), (23, .v (.int .i64 g.1))]) (fun g => [.hp (Hp.whole w), .box b1 [.slice a n c, .slice a' n' c'] 25, .box b2 [.int .i64 0, .slice none 0 0] 134, .hp g.2.h])
      (fun g => g.1 ≤ n3 ∧ OwnO fE 164 2 g.2 (edK TT k ++ (t.af.take g.1).map fun y => (y, (k : Int)))) (fun g => n3 - g.1) (0, o) ⟨Nat.zero_le _, by simpa using ho⟩ (Ent.mk (fun _ _ h => h) rfl rfl) ?_
    rintro ⟨q, o2⟩ ⟨hq, ho2⟩
    dsimp only at *
    refine bsplitd (fun h3 => ?_) (fun h3 => ?_)
    · have hq' : q < t.af.length := by omega
      refine idx (cxg _) (e := 3) rfl hs3 q rfl hq' (fun b9 o9 cs hcs hR hcell4 => ?_)
      subst hR
      refine ld1 (cxg _) (i := 0) rfl (hcell4 0 _ rfl) rfl ?_
      intro b31
      refine appO (f := fE) (cxg _) (e := 164) rfl (i := 3) rfl ho2 (j := 4) (t.af[q], (k : Int)) rfl rfl rfl rfl (by rw [List.length_append, List.length_map, List.length_take]; omega) (fun o3 ho3 => ?_)
      refine nw (by omega) (by omega) ?_
      refine ⟨(q + 1, o3), ⟨by dsimp only; omega, ?_⟩, by dsimp only; omega, Ent.mk (fun _ _ h => h.pick [0, 1, 2, 3] rfl rfl) rfl rfl⟩
      dsimp only
      rw [List.take_succ_eq_append_getElem hq', List.map_append, ← List.append_assoc]
      exact ho3
    · rw [List.take_of_length_le (by omega)] at ho2
      refine nw (by omega) (by omega) ?_
      exact ⟨(k + 1, o2), ⟨by dsimp only; omega, by dsimp only; rw [hEs]; exact ho2⟩, by dsimp only; omega, Ent.mk (fun _ _ h => h) rfl rfl⟩
  · obtain rfl : k = TT.length := by omega
    have hEl := edK_len hs.a TT.length (Nat.le_refl _)
    have lO := ho.len
    have hsn := hs.n
    obtain ⟨N, hN⟩ : ∃ N, N = TT.length := ⟨_, rfl⟩
    have hmk := edK_make haf hn
    have sE : Sl (encF fE) 2 o.h o.a o.n o.c (edK TT TT.length) := OwnO.sl (f := fE) (fun _ => rfl) (by decide) ho
    refine call (fun w' hm => by
      have := make_spec (E := edK TT TT.length) (TT.length : Int) w' (sE.mono (encF_mono _) (hm 3 _ rfl)) (by omega)
      rw [hmk] at this
      rw [show (n : Int) = TT.length by omega]
      exact this) ?_
    rintro _ _ ⟨oM, rfl, rfl, hoM⟩
    intro b7
    exact ⟨[.hp oM.h], ⟨oM, rfl, rfl, hoM⟩, fun w' h => h.pick [0, 4] rfl rfl⟩
set_option maxRecDepth 10000 in
theorem check49_spec (w : World) (hT : Sl encT 4 (Hp.whole w) a n c TT) (hS : Sl encN 2 (Hp.whole w) a' n' c' SS) (hs : Sml TT SS) (hb : StB TT SS) :
    CallsE Tryz.prog 80 #[sv a n c a' n' c'] w (RetV w (.int .i64 (shopE TT SS))) := by
  have hlen := hT.len
  have hlen' := hS.len
  have hn := hs.n
  obtain ⟨Z, hZ⟩ : ∃ Z, Z = shopE TT SS := ⟨_, rfl⟩
  have hE := hZ
  unfold shopE at hE
  rw [← hZ]
  refine enter (X := cx 66) (cxg _) (args := [.agg #[.slice a n c, .slice a' n' c']]) [.tmp 2] Tryz.func80 rfl rfl rfl rfl rfl ?_
  intro b1
  refine bsplitd (fun h1 => ?_) (fun h1 => ?_)
  · exact ⟨[], ⟨by rw [hE, if_pos (by omega)], rfl⟩, fun w' h => h.pick [0] rfl rfl⟩
  refine bsplitd (fun h2 => ?_) (fun h2 => ?_)
  · exact ⟨[], ⟨by rw [hE, if_pos (by omega)], rfl⟩, fun w' h => h.pick [0] rfl rfl⟩
  rw [if_neg (by omega)] at hE
  refine NeedL.mk Nat (fun k => [(1, .bx 1 0), (3, .v (.int .i64 k))]) (fun _ => [.hp (Hp.whole w), .box b1 [.slice a n c, .slice a' n' c'] 25])
    (fun k => k ≤ n ∧ ∀ j, j < k → taskE TT j = 0) (fun k => n - k) 0 ⟨Nat.zero_le _, fun j hj => by omega⟩ (Ent.mk (fun _ _ h => h) rfl rfl) ?_
  rintro k ⟨hk, ho⟩
  refine bsplitd (fun hlt => ?_) (fun hge => ?_)
  · have hkT : k < TT.length := by omega
    obtain ⟨e, he⟩ : ∃ e, e = taskE TT k := ⟨_, rfl⟩
    have kT : ∀ w' : World, Sl encT 4 (Hp.whole w') a n c TT → CallsE Tryz.prog 113 #[sv a n c a' n' c', .int .i64 k] w' (RetV w' (.int .i64 e)) := fun w' h => by
      rw [he]; exact checkTask49_spec k w' h hs hb hkT
    refine callV _ (fun w' hm => kT w' (hT.mono encT_mono (hm 0 _ rfl))) ?_
    refine bsplitd (fun h => ?_) (fun h => ?_)
    · rw [he] at h
      rw [firstE_hit hkT ho h] at hE
      exact ⟨[], ⟨by rw [hE, he], rfl⟩, fun w' h => h.pick [0] rfl rfl⟩
    · refine nw (by omega) (by omega) ?_
      exact ⟨k + 1, ⟨by omega, fun j hj => by
        rcases Nat.lt_or_ge j k with h3 | h3
        · exact ho j h3
        · have : j = k := by omega
          subst this; rw [← he]; exact Decidable.not_not.1 h⟩, by omega, Ent.mk (fun _ _ h => h) rfl rfl⟩
  have hall : ∀ j, j < TT.length → taskE TT j = 0 := fun j hj => ho j (by omega)
  rw [firstE_none hall] at hE
  dsimp only at hE
  clear ho
  have haf : ∀ t ∈ TT, ∀ x ∈ t.af, 0 ≤ x ∧ x < (TT.length : Int) := fun t ht => by
    obtain ⟨i, hi, rfl⟩ := List.mem_iff_getElem.1 ht
    exact task_af hi (hall i hi)
  have hoc := ordC_edges haf (by omega)
  refine call (fun w' hm => edges_spec w' (hT.mono encT_mono (hm 0 _ rfl)) hs haf (by omega)) ?_
  rintro _ _ ⟨oE, rfl, rfl, hoE⟩
  obtain ⟨z, hz⟩ : ∃ z, z = ordC TT.length (dd (sortF (edK TT TT.length))) := ⟨_, rfl⟩
  obtain ⟨zl, hzl⟩ : ∃ zl, zl = ordR TT.length (dd (sortF (edK TT TT.length))) := ⟨_, rfl⟩
  have kO : ∀ w' : World, Sl (encF fE) 2 (Hp.whole w') oE.a oE.n oE.c (dd (sortF (edK TT TT.length))) → CallsE Tryz.prog 114 #[gv TT.length oE.a oE.n oE.c] w' (RetI w' zl z) := fun w' h => by
    rw [hz, hzl]; exact Order_spec _ w' h
  have sE : Sl (encF fE) 2 oE.h oE.a oE.n oE.c (dd (sortF (edK TT TT.length))) := OwnO.sl (f := fE) (fun _ => rfl) (by decide) hoE
  refine call (fun w' hm => kO w' (sE.mono (encF_mono _) (hm 2 _ rfl))) ?_
  rintro _ _ ⟨oO, rfl, rfl, hoO⟩
  refine bsplitd (fun h3 => ?_) (fun h3 => ?_)
  · rw [hz, hoc] at h3
    by_cases hlt : (ordF TT).length < TT.length
    · rw [if_pos hlt] at hE
      exact ⟨[], ⟨by rw [hE], rfl⟩, fun w' h => h.pick [0] rfl rfl⟩
    · rw [if_neg hlt] at h3; exact absurd rfl h3
  have h3 : z = 0 := Decidable.not_not.1 h3
  rw [if_neg (fun hlt => by rw [hz, hoc, if_pos hlt] at h3; cases h3)] at hE
  clear hoO
  refine NeedL.mk Nat (fun k => [(1, .bx 1 0), (7, .v (.int .i64 k))]) (fun _ => [.hp (Hp.whole w), .box b1 [.slice a n c, .slice a' n' c'] 25])
    (fun k => k ≤ n' ∧ ∀ j, j < k → statE SS j = 0) (fun k => n' - k) 0 ⟨Nat.zero_le _, fun j hj => by omega⟩ (Ent.mk (fun _ _ h => h.pick [0, 1] rfl rfl) rfl rfl) ?_
  rintro k2 ⟨hk2, ho2⟩
  refine bsplitd (fun hlt => ?_) (fun hge => ?_)
  · have hkS : k2 < SS.length := by omega
    obtain ⟨e, he⟩ : ∃ e, e = statE SS k2 := ⟨_, rfl⟩
    have kS : ∀ w' : World, Sl encN 2 (Hp.whole w') a' n' c' SS → CallsE Tryz.prog 116 #[sv a n c a' n' c', .int .i64 k2] w' (RetV w' (.int .i64 e)) := fun w' h => by
      rw [he]; exact checkStation49_spec k2 w' h hs hb hkS
    refine callV _ (fun w' hm => kS w' (hS.mono encN_mono (hm 0 _ rfl))) ?_
    refine bsplitd (fun h => ?_) (fun h => ?_)
    · rw [he] at h
      rw [firstE_hit hkS ho2 h] at hE
      exact ⟨[], ⟨by rw [hE, he], rfl⟩, fun w' h => h.pick [0] rfl rfl⟩
    · refine nw (by omega) (by omega) ?_
      exact ⟨k2 + 1, ⟨by omega, fun j hj => by
        rcases Nat.lt_or_ge j k2 with h3 | h3
        · exact ho2 j h3
        · have : j = k2 := by omega
          subst this; rw [← he]; exact Decidable.not_not.1 h⟩, by omega, Ent.mk (fun _ _ h => h) rfl rfl⟩
  rw [firstE_none fun j hj => ho2 j (by omega)] at hE
  dsimp only at hE
  clear ho2
  refine NeedL.mk Nat (fun k => [(1, .bx 1 0), (9, .v (.int .i64 k))]) (fun _ => [.hp (Hp.whole w), .box b1 [.slice a n c, .slice a' n' c'] 25])
    (fun k => k ≤ n ∧ ∀ t ∈ TT.take k, SS.any (canS t.tl) = true) (fun k => n - k) 0 ⟨Nat.zero_le _, fun t ht => by simp at ht⟩ (Ent.mk (fun _ _ h => h) rfl rfl) ?_
  rintro k3 ⟨hk3, ho3⟩
  refine bsplitd (fun hlt => ?_) (fun hge => ?_)
  · have hkT : k3 < TT.length := by omega
    refine call (fun w' hm => able49_spec k3 w' (hT.mono encT_mono (hm 0 _ rfl)) (hS.mono encN_mono (hm 0 _ rfl)) hs hkT) ?_
    rintro _ _ ⟨oA, rfl, rfl, hoA⟩
    have lA := hoA.len
    have hab := abl_none (SS := SS) hkT
    refine bsplitd (fun h => ?_) (fun h => ?_)
    · have h5 : SS.any (canS TT[k3].tl) = false := hab.1 (by omega)
      rw [if_pos (List.any_eq_true.2 ⟨TT[k3], List.getElem_mem hkT, by rw [h5]; rfl⟩)] at hE
      exact ⟨[], ⟨by rw [hE], rfl⟩, fun w' h => h.pick [0] rfl rfl⟩
    · have h5 : SS.any (canS TT[k3].tl) = true := by
        cases e : SS.any (canS TT[k3].tl) with
        | true => rfl
        | false => exact absurd (hab.2 e) (by omega)
      refine nw (by omega) (by omega) ?_
      refine ⟨k3 + 1, ⟨by omega, fun t ht => ?_⟩, by omega, Ent.mk (fun _ _ h => h.pick [0, 1] rfl rfl) rfl rfl⟩
      rw [List.take_succ_eq_append_getElem hkT, List.mem_append, List.mem_singleton] at ht
      rcases ht with ht | rfl
      · exact ho3 t ht
      · exact h5
  · rw [List.take_of_length_le (by omega)] at ho3
    rw [if_neg (by rw [Bool.not_eq_true, List.any_eq_false]; intro t ht; rw [ho3 t ht]; decide)] at hE
    exact ⟨[], ⟨by rw [hE], rfl⟩, fun w' h => h.pick [0] rfl rfl⟩
theorem Check49_spec (w : World) (hT : Sl encT 4 (Hp.whole w) a n c TT) (hS : Sl encN 2 (Hp.whole w) a' n' c' SS) (hs : Sml TT SS) (hb : StB TT SS) :
    CallsE Tryz.prog 35 #[sv a n c a' n' c'] w (RetV w (.int .i64 (shopE TT SS))) := by
  obtain ⟨Z, hZ⟩ : ∃ Z, Z = shopE TT SS := ⟨_, rfl⟩
  have k : ∀ w' : World, Sl encT 4 (Hp.whole w') a n c TT → Sl encN 2 (Hp.whole w') a' n' c' SS → CallsE Tryz.prog 80 #[sv a n c a' n' c'] w' (RetV w' (.int .i64 Z)) := fun w' h1 h2 => by
    rw [hZ]; exact check49_spec w' h1 h2 hs hb
  rw [← hZ]
  refine enter (X := cx 5) (cxg _) (args := [.agg #[.slice a n c, .slice a' n' c']]) [.tmp 2] Tryz.func35 rfl rfl rfl rfl rfl ?_
  intro b1
  refine callV _ (fun w' hm => k w' (hT.mono encT_mono (hm 0 _ rfl)) (hS.mono encN_mono (hm 0 _ rfl))) ?_
  exact ⟨[], ⟨rfl, rfl⟩, fun w' h => h.pick [0] rfl rfl⟩
end
end Go.Proofs.YtnlkffccobdbjaaGreat
