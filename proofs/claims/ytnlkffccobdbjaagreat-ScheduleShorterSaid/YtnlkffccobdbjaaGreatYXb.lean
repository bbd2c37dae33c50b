/- Contracts of the model of layer 49: Few, name, tool, able, checkTask, checkStation. Their premises are their own. -/
import Derived.Test.YtnlkffccobdbjaaGreatXL
import Derived.Test.YtnlkffccobdbjaaGreatYWx
namespace Go.Proofs.YtnlkffccobdbjaaGreat
open Go Go.RowKit Go.Dw
theorem bytes_tri : ∀ (x y : List UInt8), (Op.bytesLess x y || x == y) = !(Op.bytesLess y x)
  | [], [] => rfl
  | [], _ :: _ => rfl
  | _ :: _, [] => rfl
  | a :: x, b :: y => by
    have ih := bytes_tri x y
    unfold Op.bytesLess
    by_cases h1 : a < b
    · have h2 : ¬ b < a := fun h => UInt8.lt_irrefl _ (UInt8.lt_trans h1 h)
      have h3 : ¬ b = a := fun h => by subst h; exact UInt8.lt_irrefl _ h1
      simp [h1, h2, h3]
    · by_cases h2 : b < a
      · have h3 : ¬ a = b := fun h => by subst h; exact UInt8.lt_irrefl _ h2
        simp [h1, h2, h3]
      · have h3 : a = b := Classical.byContradiction fun hn => (UInt8.lt_or_lt_of_ne hn).elim h1 h2
        subst h3
        simp [h1]
        simpa using ih
theorem sLe_not (x y : ByteArray) : (sLt x y || decide (x = y)) = !sLt y x := by
  unfold sLt
  rw [← str_eq]
  exact bytes_tri _ _
theorem all_bad {α : Type} {L : List α} {p : α → Bool} {k : Nat} (hk : k < L.length) (h : p L[k] = false) : L.all p = false := by
  cases e : L.all p with
  | false => rfl
  | true => rw [List.all_eq_true.1 e _ (List.getElem_mem hk)] at h; cases h
theorem all_good {α : Type} {L : List α} {p : α → Bool} (h : ∀ k (hk : k < L.length), p L[k] = true) : L.all p = true := List.all_eq_true.2 fun x hx => by
  obtain ⟨k, hk, rfl⟩ := List.mem_iff_getElem.1 hx
  exact h k hk
def fewT (t : Tk) : Bool := decide (t.af.length ≤ 10) && (decide (t.nm.size ≤ 50) && decide (t.tl.size ≤ 50))
def fewN (s : Sn) : Bool := decide (s.ts.length ≤ 5) && (decide (s.nm.size ≤ 50) && s.ts.all fun x => decide (x.size ≤ 50))
def fewF49 (TT : List Tk) (SS : List Sn) : Bool := decide (TT.length ≤ 8) && (decide (SS.length ≤ 4) && (TT.all fewT && SS.all fewN))
theorem few49_sml {TT : List Tk} {SS : List Sn} (h : fewF49 TT SS = true) : Sml TT SS ∧ TT.length ≤ 8 ∧ SS.length ≤ 4 ∧ (∀ t ∈ TT, t.af.length ≤ 10) := by
  unfold fewF49 at h
  rw [Bool.and_eq_true, Bool.and_eq_true, Bool.and_eq_true, decide_eq_true_eq, decide_eq_true_eq, List.all_eq_true, List.all_eq_true] at h
  obtain ⟨h1, h2, h3, h4⟩ := h
  have ha : ∀ t ∈ TT, t.af.length ≤ 10 := fun t ht => by
    have := h3 t ht
    unfold fewT at this
    rw [Bool.and_eq_true, decide_eq_true_eq] at this; exact this.1
  refine ⟨⟨by omega, by omega, fun t ht => by have := ha t ht; omega, fun s hs => ?_⟩, h1, h2, ha⟩
  have := h4 s hs
  unfold fewN at this
  rw [Bool.and_eq_true, decide_eq_true_eq] at this; omega
section
variable {a a' : Option Addr} {n c n' c' : Nat} {TT : List Tk} {SS : List Sn}
set_option maxRecDepth 10000 in
theorem Few_spec (w : World) (hT : Sl encT 4 (Hp.whole w) a n c TT) (hS : Sl encN 2 (Hp.whole w) a' n' c' SS) :
    CallsE Tryz.prog 46 #[sv a n c a' n' c'] w (RetV w (.bool (fewF49 TT SS))) := by
  have lT := hT.len
  have lS := hS.len
  refine enter (X := cx 98) (cxg _) (args := [.agg #[.slice a n c, .slice a' n' c']]) [.tmp 2] Tryz.func46 rfl rfl rfl rfl rfl ?_
  intro b1
  refine bsplitd (fun h1 => ?_) (fun h1 => ?_)
  · exact ⟨[], ⟨by unfold fewF49; rw [decide_eq_false (by omega)]; rfl, rfl⟩, fun w' h => h.pick [0] rfl rfl⟩
  refine bsplitd (fun h2 => ?_) (fun h2 => ?_)
  · exact ⟨[], ⟨by unfold fewF49; rw [decide_eq_false (show ¬ SS.length ≤ 4 by omega)]; simp, rfl⟩, fun w' h => h.pick [0] rfl rfl⟩
  have hr : fewF49 TT SS = (TT.all fewT && SS.all fewN) := by unfold fewF49; rw [decide_eq_true (by omega), decide_eq_true (by omega)]; rfl
  refine NeedL.mk Nat (fun k => [(1, .bx 1 0), (3, .v (.int .i64 k))]) (fun _ => [.hp (Hp.whole w), .box b1 [.slice a n c, .slice a' n' c'] 25])
    (fun k => k ≤ n ∧ ∀ j (hj : j < TT.length), j < k → fewT TT[j] = true) (fun k => n - k) 0 ⟨Nat.zero_le _, fun j _ hj => by omega⟩ (Ent.mk (fun _ _ h => h) rfl rfl) ?_
  rintro k ⟨hk, hall⟩
  refine bsplitd (fun h3 => ?_) (fun h3 => ?_)
  · have hkT : k < TT.length := by omega
    obtain ⟨t, ht⟩ : ∃ t, t = TT[k] := ⟨_, rfl⟩
    have bad : fewT t = false → fewF49 TT SS = false := fun h => by rw [hr, all_bad hkT (by rw [← ht]; exact h)]; rfl
    have hf : fewT t = (decide (t.af.length ≤ 10) && (decide (t.nm.size ≤ 50) && decide (t.tl.size ≤ 50))) := rfl
    refine hideQ (fun q0 k0 => ?_)
    refine hideK 9 (fun q1 k1 => ?_)
    refine idx (cxg _) (e := 64) rfl hT k rfl hkT (fun b9 o9 cs hcs hR hcell4 => ?_)
    rw [← ht] at hR
    obtain ⟨a3, n3, c3, rfl, hs3⟩ := hR
    have l3 := hs3.len
    refine ld1 (cxg _) (i := 0) rfl (hcell4 3 _ rfl) rfl ?_
    refine k1 _ _ ?_
    refine bsplitd (fun h5 => ?_) (fun h5 => ?_)
    · refine k0 _ _ ?_
      refine condT rfl ?_
      exact ⟨[], ⟨by rw [bad (by rw [hf, decide_eq_false (by omega)]; rfl)], rfl⟩, fun w' h => h.pick [0] rfl rfl⟩
    refine hideK 9 (fun q2 k2 => ?_)
    refine idx (cxg _) (e := 64) rfl hT k rfl hkT (fun b9 o9 cs hcs hR hcell6 => ?_)
    rw [← ht] at hR
    obtain ⟨a4, n4, c4, rfl, hs4⟩ := hR
    refine ld1 (cxg _) (i := 0) rfl (hcell6 0 _ rfl) rfl ?_
    refine k2 _ _ ?_
    refine bsplitd (fun h7 => ?_) (fun h7 => ?_)
    · refine k0 _ _ ?_
      refine condT rfl ?_
      exact ⟨[], ⟨by rw [bad (by rw [hf, decide_eq_false (show ¬ t.nm.size ≤ 50 by omega)]; simp)], rfl⟩, fun w' h => h.pick [0] rfl rfl⟩
    refine idx (cxg _) (e := 64) rfl hT k rfl hkT (fun b9 o9 cs hcs hR hcell8 => ?_)
    rw [← ht] at hR
    obtain ⟨a5, n5, c5, rfl, hs5⟩ := hR
    refine ld1 (cxg _) (i := 0) rfl (hcell8 2 _ rfl) rfl ?_
    refine k0 _ _ ?_
    refine bsplitd (fun h9 => ?_) (fun h9 => ?_)
    · exact ⟨[], ⟨by rw [bad (by rw [hf, decide_eq_false (show ¬ t.tl.size ≤ 50 by omega)]; simp)], rfl⟩, fun w' h => h.pick [0] rfl rfl⟩
    refine nw (by omega) (by omega) ?_
    refine ⟨k + 1, ⟨by omega, fun j hj hjk => ?_⟩, by omega, Ent.mk (fun _ _ h => h) rfl rfl⟩
    rcases Nat.lt_or_ge j k with h | h
    · exact hall j hj h
    · obtain rfl : j = k := by omega
      rw [← ht, hf, decide_eq_true (show t.af.length ≤ 10 by omega), decide_eq_true (show t.nm.size ≤ 50 by omega), decide_eq_true (show t.tl.size ≤ 50 by omega)]; rfl
  have hTall : TT.all fewT = true := all_good fun k hk' => hall k hk' (by omega)
  rw [hTall, Bool.true_and] at hr
  refine NeedL.mk Nat (fun k => [(1, .bx 1 0), (4, .v (.int .i64 k))]) (fun _ => [.hp (Hp.whole w), .box b1 [.slice a n c, .slice a' n' c'] 25])
    (fun k => k ≤ n' ∧ ∀ j (hj : j < SS.length), j < k → fewN SS[j] = true) (fun k => n' - k) 0 ⟨Nat.zero_le _, fun j _ hj => by omega⟩ (Ent.mk (fun _ _ h => h) rfl rfl) ?_
  rintro i ⟨hi, hall2⟩
  refine bsplitd (fun h10 => ?_) (fun h10 => ?_)
  · have hiS : i < SS.length := by omega
    obtain ⟨t, ht⟩ : ∃ t, t = SS[i] := ⟨_, rfl⟩
    have bad : fewN t = false → fewF49 TT SS = false := fun h => by rw [hr, all_bad hiS (by rw [← ht]; exact h)]
    have hf : fewN t = (decide (t.ts.length ≤ 5) && (decide (t.nm.size ≤ 50) && t.ts.all fun x => decide (x.size ≤ 50))) := rfl
    refine hideQ (fun q0 k0 => ?_)
    refine hideK 9 (fun q1 k1 => ?_)
    refine idx (cxg _) (e := 60) rfl hS i rfl hiS (fun b9 o9 cs hcs hR hcell11 => ?_)
    rw [← ht] at hR
    obtain ⟨a3, n3, c3, rfl, hs3⟩ := hR
    have l3 := hs3.len
    refine ld1 (cxg _) (i := 0) rfl (hcell11 1 _ rfl) rfl ?_
    refine k1 _ _ ?_
    refine bsplitd (fun h12 => ?_) (fun h12 => ?_)
    · refine k0 _ _ ?_
      refine condT rfl ?_
      exact ⟨[], ⟨by rw [bad (by rw [hf, decide_eq_false (by omega)]; rfl)], rfl⟩, fun w' h => h.pick [0] rfl rfl⟩
    refine idx (cxg _) (e := 60) rfl hS i rfl hiS (fun b9 o9 cs hcs hR hcell13 => ?_)
    rw [← ht] at hR
    obtain ⟨a4, n4, c4, rfl, hs4⟩ := hR
    refine ld1 (cxg _) (i := 0) rfl (hcell13 0 _ rfl) rfl ?_
    refine k0 _ _ ?_
    refine bsplitd (fun h14 => ?_) (fun h14 => ?_)
    · exact ⟨[], ⟨by rw [bad (by rw [hf, decide_eq_false (show ¬ t.nm.size ≤ 50 by omega)]; simp)], rfl⟩, fun w' h => h.pick [0] rfl rfl⟩
    refine NeedL.mk Nat (fun k => [(1, .bx 1 0), (4, .v (.int .i64 i)), (5, .v (.int .i64 k))]) (fun _ => [.hp (Hp.whole w), .box b1 [.slice a n c, .slice a' n' c'] 25])
      (fun k => k ≤ n3 ∧ ∀ j (hj : j < t.ts.length), j < k → decide (t.ts[j].size ≤ 50) = true) (fun k => n3 - k) 0 ⟨Nat.zero_le _, fun j _ hj => by omega⟩ (Ent.mk (fun _ _ h => h) rfl rfl) ?_
    rintro q ⟨hq, hall3⟩
    refine idx (cxg _) (e := 60) rfl hS i rfl hiS (fun b9 o9 cs hcs hR hcell15 => ?_)
    rw [← ht] at hR
    obtain ⟨a5, n5, c5, rfl, hs5⟩ := hR
    have l5 := hs5.len
    refine ld1 (cxg _) (i := 0) rfl (hcell15 1 _ rfl) rfl ?_
    refine bsplitd (fun h16 => ?_) (fun h16 => ?_)
    · have hqt : q < t.ts.length := by omega
      obtain ⟨x, hx⟩ : ∃ x, x = t.ts[q] := ⟨_, rfl⟩
      refine idx (cxg _) (e := 60) rfl hS i rfl hiS (fun b9 o9 cs hcs hR hcell17 => ?_)
      rw [← ht] at hR
      obtain ⟨a6, n6, c6, rfl, hs6⟩ := hR
      refine ld1 (cxg _) (i := 0) rfl (hcell17 1 _ rfl) rfl ?_
      refine idx (cxg _) (e := 9) rfl hs6 q rfl hqt (fun b9 o9 cs hcs hR hcell18 => ?_)
      subst hR
      rw [← hx] at hcell18
      refine ld1 (cxg _) (i := 0) rfl (hcell18 0 _ rfl) rfl ?_
      refine bsplitd (fun h19 => ?_) (fun h19 => ?_)
      · exact ⟨[], ⟨by rw [bad (by rw [hf, all_bad (k := q) hqt (decide_eq_false (by rw [← hx]; omega))]; simp)], rfl⟩, fun w' h => h.pick [0] rfl rfl⟩
      · refine nw (by omega) (by omega) ?_
        refine ⟨q + 1, ⟨by omega, fun j hj hjk => ?_⟩, by omega, Ent.mk (fun _ _ h => h) rfl rfl⟩
        rcases Nat.lt_or_ge j q with h | h
        · exact hall3 j hj h
        · obtain rfl : j = q := by omega
          exact decide_eq_true (by rw [← hx]; omega)
    · refine nw (by omega) (by omega) ?_
      refine ⟨i + 1, ⟨by omega, fun j hj hjk => ?_⟩, by omega, Ent.mk (fun _ _ h => h) rfl rfl⟩
      rcases Nat.lt_or_ge j i with h | h
      · exact hall2 j hj h
      · obtain rfl : j = i := by omega
        rw [← ht, hf, decide_eq_true (show t.ts.length ≤ 5 by omega), decide_eq_true (show t.nm.size ≤ 50 by omega), all_good fun k hk' => hall3 k hk' (by omega)]; rfl
  · exact ⟨[], ⟨by rw [hr, all_good fun k hk' => hall2 k hk' (by omega)], rfl⟩, fun w' h => h.pick [0] rfl rfl⟩
set_option maxRecDepth 10000 in
theorem name49_spec (s : ByteArray) (w : World) (hs : s.size < 1000000000) : CallsE Tryz.prog 146 #[.string s] w (RetV w (.bool (nmOk s))) := by
  refine enter (X := cx 28) (cxg _) (args := [.string s]) [.tmp 2] Tryz.func146 rfl rfl rfl rfl rfl ?_
  refine NeedL.mk Nat (fun k => [(0, .v (.string s)), (3, .v (.int .i64 k))]) (fun _ => [.hp (Hp.whole w)])
    (fun k => k ≤ s.size ∧ ∀ j, j < k → (decide (33 ≤ (s.get! j).toNat) && decide ((s.get! j).toNat ≤ 126)) = true) (fun k => s.size - k) 0 ⟨Nat.zero_le _, fun j hj => by omega⟩ (Ent.mk (fun _ _ h => h) rfl rfl) ?_
  rintro k ⟨hk, hall⟩
  refine bsplitd (fun h1 => ?_) (fun h1 => ?_)
  · have hks : k < s.size := by omega
    have bad : (decide (33 ≤ (s.get! k).toNat) && decide ((s.get! k).toNat ≤ 126)) = false → nmOk s = false := fun h => by
      unfold nmOk
      rw [all_bad (L := List.range s.size) (k := k) (by rw [List.length_range]; exact hks) (by rw [List.getElem_range]; exact h)]; simp
    obtain ⟨u, hu⟩ : ∃ u, u = (s.get! k).toNat := ⟨_, rfl⟩
    rw [← hu] at bad
    refine qIdxS (cxg _) rfl rfl k rfl hks ?_
    rw [← hu]
    refine bsplitd (fun h3 => ?_) (fun h3 => ?_)
    · exact ⟨[], ⟨by rw [bad (by rw [decide_eq_false (by omega)]; rfl)], rfl⟩, fun w' h => h⟩
    refine qIdxS (cxg _) rfl rfl k rfl hks ?_
    rw [← hu]
    refine bsplitd (fun h5 => ?_) (fun h5 => ?_)
    · exact ⟨[], ⟨by rw [bad (by rw [decide_eq_false (show ¬ u ≤ 126 by omega)]; simp)], rfl⟩, fun w' h => h⟩
    refine nw (by omega) (by omega) ?_
    refine ⟨k + 1, ⟨by omega, fun j hj => ?_⟩, by omega, Ent.mk (fun _ _ h => h) rfl rfl⟩
    rcases Nat.lt_or_ge j k with h | h
    · exact hall j h
    · obtain rfl : j = k := by omega
      rw [← hu, decide_eq_true (by omega), decide_eq_true (by omega)]; rfl
  · have hA : (List.range s.size).all (fun i => decide (33 ≤ (s.get! i).toNat) && decide ((s.get! i).toNat ≤ 126)) = true := List.all_eq_true.2 fun i hi => hall i (by have := List.mem_range.1 hi; omega)
    refine bsplitd (fun h6 => ?_) (fun h6 => ?_)
    · have e1 : nmOk s = decide (s.size ≤ 40) := by unfold nmOk; rw [hA, decide_eq_true (show 0 < s.size by omega), Bool.true_and, Bool.and_true]
      exact ⟨[], ⟨by rw [e1]; exact congrArg Value.bool (decide_eq_decide.2 (by omega)), rfl⟩, fun w' h => h⟩
    · exact ⟨[], ⟨by unfold nmOk; rw [decide_eq_false (by omega)]; rfl, rfl⟩, fun w' h => h⟩
theorem tool49_spec {at' : Option Addr} {nt ct : Nat} {L : List ByteArray} (nm t : ByteArray) (w : World) (hL : Sl (encF fS) 1 (Hp.whole w) at' nt ct L) (hl : L.length < 1000000) :
    CallsE Tryz.prog 150 #[.agg #[.string nm, .slice at' nt ct], .string t] w (RetV w (.bool (canS t ⟨nm, L⟩))) := by
  have lL := hL.len
  have hc : canS t ⟨nm, L⟩ = (decide (t = ByteArray.empty) || L.any fun x => decide (x = t)) := rfl
  refine enter (X := cx 22) (cxg _) (args := [.agg #[.string nm, .slice at' nt ct], .string t]) [.tmp 4] Tryz.func150 rfl rfl rfl rfl rfl ?_
  intro b2
  refine NeedL.mk Nat (fun k => [(1, .v (.string t)), (2, .bx 1 0), (5, .v (.int .i64 k))]) (fun _ => [.hp (Hp.whole w), .box b2 [.string nm, .slice at' nt ct] 60])
    (fun k => k ≤ nt ∧ ∀ j (hj : j < L.length), j < k → ¬ L[j] = t) (fun k => nt - k) 0 ⟨Nat.zero_le _, fun j _ hj => by omega⟩ (Ent.mk (fun _ _ h => h) rfl rfl) ?_
  rintro k ⟨hk, hall⟩
  refine bsplitd (fun h1 => ?_) (fun h1 => ?_)
  · have hkL : k < L.length := by omega
    refine idx (cxg _) (e := 9) rfl hL k rfl hkL (fun b9 o9 cs hcs hR hcell2 => ?_)
    subst hR
    refine ld1 (cxg _) (i := 0) rfl (hcell2 0 _ rfl) rfl ?_
    refine qEqS ?_
    refine bsplitd (fun h3 => ?_) (fun h3 => ?_)
    · exact ⟨[], ⟨by rw [hc, List.any_eq_true.2 ⟨L[k], List.getElem_mem hkL, decide_eq_true h3⟩]; simp, rfl⟩, fun w' h => h.pick [0] rfl rfl⟩
    · refine nw (by omega) (by omega) ?_
      refine ⟨k + 1, ⟨by omega, fun j hj hjk => ?_⟩, by omega, Ent.mk (fun _ _ h => h) rfl rfl⟩
      rcases Nat.lt_or_ge j k with h | h
      · exact hall j hj h
      · obtain rfl : j = k := by omega
        exact h3
  · have hno : (L.any fun x => decide (x = t)) = false := by
      rw [List.any_eq_false]
      intro x hx
      obtain ⟨j, hj, rfl⟩ := List.mem_iff_getElem.1 hx
      simpa using hall j hj (by omega)
    refine qEqS ?_
    exact ⟨[], ⟨by rw [hc, hno, Bool.or_false]; rfl, rfl⟩, fun w' h => h.pick [0] rfl rfl⟩
def ablK (TT : List Tk) (SS : List Sn) (i k : Nat) : List Int := natL ((List.range k).filter fun j => caA TT SS i j)
theorem ablK_succ (TT : List Tk) (SS : List Sn) (i k : Nat) : ablK TT SS i (k + 1) = if caA TT SS i k then ablK TT SS i k ++ [(k : Int)] else ablK TT SS i k := by
  unfold ablK natL
  rw [List.range_succ, List.filter_append, List.map_append]
  by_cases h : caA TT SS i k = true
  · simp [h]
  · simp [h]
theorem ablK_len (TT : List Tk) (SS : List Sn) (i k : Nat) : (ablK TT SS i k).length ≤ k := by
  unfold ablK natL
  rw [List.length_map]
  exact Nat.le_trans (List.length_filter_le _ _) (by simp)
theorem able49_spec (i : Nat) (w : World) (hT : Sl encT 4 (Hp.whole w) a n c TT) (hS : Sl encN 2 (Hp.whole w) a' n' c' SS) (hs : Sml TT SS) (hi : i < TT.length) :
    CallsE Tryz.prog 117 #[sv a n c a' n' c', .int .i64 i] w (Ret w fun v cs => ∃ o : Dw.Os, v = o.v ∧ cs = [.hp o.h] ∧ OwnO fI 3 1 o (ablK TT SS i SS.length)) := by
  have lT := hT.len
  have lS := hS.len
  have sm := hs.m
  obtain ⟨t, ht⟩ : ∃ t, t = TT[i] := ⟨_, rfl⟩
  refine enter (X := cx 31) (cxg _) (args := [.agg #[.slice a n c, .slice a' n' c'], .int .i64 i]) [.tmp 4] Tryz.func117 rfl rfl rfl rfl rfl ?_
  intro b2
  refine NeedL.mk (Nat × Dw.Os) (fun g => [(1, .v (.int .i64 i)), (2, .bx 1 0), (5, .v g.2.v), (6, .v (.int .i64 g.1))]) (fun g => [.hp (Hp.whole w), .box b2 [.slice a n c, .slice a' n' c'] 25, .hp g.2.h])
    (fun g => g.1 ≤ n' ∧ OwnO fI 3 1 g.2 (ablK TT SS i g.1)) (fun g => n' - g.1) (0, Os.nil) ⟨Nat.zero_le _, OwnO.nil _ _ _⟩ (Ent.mk (fun _ _ h => h.emp) rfl rfl) ?_
  rintro ⟨k, o⟩ ⟨hk, ho⟩
  dsimp only at *
  refine bsplitd (fun h1 => ?_) (fun h1 => ?_)
  · have hkS : k < SS.length := by omega
    have hst := ablK_succ TT SS i k
    have hkl := ablK_len TT SS i k
    obtain ⟨s, hsd⟩ : ∃ s, s = SS[k] := ⟨_, rfl⟩
    have hls := hs.s s (by rw [hsd]; exact List.getElem_mem hkS)
    obtain ⟨ca, hca⟩ : ∃ ca, ca = caA TT SS i k := ⟨_, rfl⟩
    have hca2 : canS t.tl ⟨s.nm, s.ts⟩ = ca := by rw [hca]; unfold caA; rw [tk_get hi, gD hkS, ← ht, ← hsd]
    rw [← hca] at hst
    refine NeedD.by_order (cxg _) (.take 0 <| .take 1 <| .take 2 <| .take 3 <| .take 4 <| .take 5 <| .take 6 <| .take 7 <| .take 8 <| .take 9 <| .take 10 <| .run 11 <| .done) (by kernel_rfl) ?_
    refine idx (cxg _) (e := 60) rfl hS k rfl hkS (fun b9 o9 cs hcs hR hcell2 => ?_)
    rw [← hsd] at hR
    obtain ⟨a3, n3, c3, rfl, hs3⟩ := hR
    refine ldn (cxg _) (i := 0) rfl hcell2 rfl ?_
    refine idx (cxg _) (e := 64) rfl hT i rfl hi (fun b9 o9 cs hcs hR hcell3 => ?_)
    rw [← ht] at hR
    obtain ⟨a4, n4, c4, rfl, hs4⟩ := hR
    refine ld1 (cxg _) (i := 0) rfl (hcell3 2 _ rfl) rfl ?_
    refine callV (.bool ca) (fun w' hm => by rw [← hca2]; exact tool49_spec s.nm t.tl w' (hs3.mono (encF_mono _) (hm 0 _ rfl)) (by omega)) ?_
    refine ⟨(by repeat first | exact trivial | refine ⟨.inl rfl, ?_⟩ | refine ⟨.inr rfl, ?_⟩), ?_⟩
    refine bsplit (fun h4 => ?_) (fun h4 => ?_)
    · rw [if_pos h4] at hst
      intro b28
      refine appO (f := fI) (cxg _) (e := 3) rfl (i := 2) rfl ho (j := 3) (k : Int) rfl rfl rfl rfl (by omega) (fun o2 ho2 => ?_)
      refine nw (by omega) (by omega) ?_
      exact ⟨(k + 1, o2), ⟨by dsimp only; omega, by dsimp only; rw [hst]; exact ho2⟩, by dsimp only; omega, Ent.mk (fun _ _ h => h.pick [0, 1, 2] rfl rfl) rfl rfl⟩
    · rw [if_neg (by rw [h4]; decide)] at hst
      refine nw (by omega) (by omega) ?_
      exact ⟨(k + 1, o), ⟨by dsimp only; omega, by dsimp only; rw [hst]; exact ho⟩, by dsimp only; omega, Ent.mk (fun _ _ h => h) rfl rfl⟩
  · have e : k = SS.length := by omega
    rw [e] at ho
    exact ⟨[.hp o.h], ⟨o, rfl, rfl, ho⟩, fun w' h => h.pick [0, 2] rfl rfl⟩
end
end Go.Proofs.YtnlkffccobdbjaaGreat
