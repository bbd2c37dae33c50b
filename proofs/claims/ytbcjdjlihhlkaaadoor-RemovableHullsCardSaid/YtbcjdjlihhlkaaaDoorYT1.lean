/- The law RemovableHulls returns true. Its premises are its arguments' form and the table of math/bits. -/
import Derived.Test.YtbcjdjlihhlkaaaDoorXM
namespace Go.Proofs.YtbcjdjlihhlkaaaDoor
open Go Go.RowKit Go.Dw
set_option maxRecDepth 10000 in
theorem hulls24_ok {a a1 : Option Addr} {n c n1 c1 : Nat} {U L : List Int} (N : Int) (w : World) (hU : Sl (encF fY) 1 (Hp.whole w) a n c U) (hL : Sl (encF fI) 1 (Hp.whole w) a1 n1 c1 L) (hN : 0 ≤ N ∧ N ≤ 255) (hUr : ∀ u ∈ U, 0 ≤ u ∧ u ≤ 255) (hT : Tab (Hp.whole w)) :
    CallsE Tryd.prog 5 #[.agg #[.int .u8 N, .slice a n c], .slice a1 n1 c1] w (RetV w (.bool true)) := by
  have hll := hL.len
  obtain ⟨M, hM⟩ : ∃ M, M = N.toNat % 8 := ⟨_, rfl⟩
  have hM7 : M ≤ 7 := by omega
  obtain ⟨E, hEd⟩ : ∃ E, E = netE M U := ⟨_, rfl⟩
  have hG : Gr M E := hEd ▸ net_gr hM7 U
  have h0 : checkF M E = 0 := hEd ▸ net_check hM7 U
  have kG : ∀ w : World, Sl (encF fY) 1 (Hp.whole w) a n c U → CallsE Tryd.prog 10 #[.agg #[.int .u8 N, .slice a n c]] w (Ret w fun v cs => ∃ o : Dw.Os, v = gv M o.a o.n o.c ∧ cs = [.hp o.h] ∧ OwnO fE 58 2 o E) := fun w h => by
    rw [hEd, hM]; exact Net_spec N w h hN hUr
  obtain ⟨R, hRd⟩ : ∃ R, R = reaR M E L := ⟨_, rfl⟩
  obtain ⟨z, hz⟩ : ∃ z, z = readyF M E L := ⟨_, rfl⟩
  refine enter (X := cx 88) (cxg _) (args := [.agg #[.int .u8 N, .slice a n c], .slice a1 n1 c1]) [.tmp 4] Tryd.func5 rfl rfl rfl rfl rfl ?_
  intro b2
  refine callV _ (fun w' hm => known24_spec w' (hT.mono (hm 0 _ rfl))) ?_
  refine bsplitd (fun h8 => ?_) (fun h8 => ?_)
  · refine callV _ (fun w' hm => known24_spec w' (hT.mono (hm 0 _ rfl))) ?_
    exact ⟨[], ⟨rfl, rfl⟩, fun w' h => h.pick [0] rfl rfl⟩
  refine call (fun w' hm => kG w' (hU.mono (encF_mono _) (hm 0 _ rfl))) ?_
  rintro _ _ ⟨o, rfl, rfl, ho⟩
  have sE := OwnO.sl (f := fE) (fun _ => rfl) (by decide) ho
  intro b5
  have kH : ∀ w : World, Sl (encF fE) 2 (Hp.whole w) o.a o.n o.c E → Sl (encF fI) 1 (Hp.whole w) a1 n1 c1 L → CallsE Tryd.prog 21 #[gv M o.a o.n o.c, .slice a1 n1 c1] w (RetI w R z) := fun w h h' => by
    rw [hRd, hz]; exact Hull_spec M w h h' (by omega)
  refine call (fun w' hm => kH w' (sE.mono (encF_mono _) (hm 2 _ rfl)) (hL.mono (encF_mono _) (hm 0 _ rfl))) ?_
  rintro _ _ ⟨oR, rfl, rfl, hoR⟩
  have sR := OwnO.sl (f := fI) (fun _ => rfl) (by decide) hoR
  refine hideQ (fun _ h => h _ _ ?_)
  refine normS [.hp (Hp.whole w), .box b2 [.int .u8 N, .slice a n c] 24, .hp o.h, .box b5 [.int .i64 M, .slice o.a o.n o.c] 28, .hp oR.h] rfl ?_
  refine NeedL.mk Nat (fun k => [(1, .v (.slice a1 n1 c1)), (5, .bx 3 0), (6, .v oR.v), (7, .v (.int .i64 z)), (8, .v (.int .i64 (if (L.take k).any (beyondF M) then 2 else 0))), (9, .v (.int .i64 k))]) (fun _ => [.hp (Hp.whole w), .box b2 [.int .u8 N, .slice a n c] 24, .hp o.h, .box b5 [.int .i64 M, .slice o.a o.n o.c] 28, .hp oR.h])
    (fun k => k ≤ n1) (fun k => n1 - k) 0 (Nat.zero_le _) (Ent.mk (fun _ _ h => h) rfl rfl) ?_
  rintro k hk
  refine bsplitd (fun hlt => ?_) (fun hge => ?_)
  · have hlt' : k < L.length := by omega
    obtain ⟨x, hx⟩ : ∃ x : Int, x = if (L.take k).any (beyondF M) then 2 else 0 := ⟨_, rfl⟩
    have st : (L.take (k + 1)).any (beyondF M) = ((L.take k).any (beyondF M) || beyondF M L[k]) := any_snoc hlt'
    rw [← hx]
    refine NeedD.by_order (cxg _) (.take 0 <| .take 1 <| .take 2 <| .take 3 <| .take 4 <| .take 5 <| .take 6 <| .take 7 <| .take 8 <| .take 9 <| .take 10 <| .take 11 <| .take 12 <| .take 13 <| .done) (by kernel_rfl) ?_
    refine idx (cxg _) (e := 3) rfl hL k rfl hlt' (fun b o cs hcs hR hcell => ?_)
    subst hR
    refine ld1 (cxg _) (i := 0) rfl (hcell 0 _ rfl) rfl ?_
    refine bsplitd (fun h1 => ?_) (fun h1 => ?_)
    · refine nw (by omega) (by omega) ?_
      have e : beyondF M L[k] = true := by simp [beyondF, h1]
      exact ⟨k + 1, by omega, by omega, Ent.mk (fun _ _ h => h) (by rw [st, e, Bool.or_true, if_pos rfl]; rfl) rfl⟩
    refine idx (cxg _) (e := 3) rfl hL k rfl hlt' (fun b o cs hcs hR hcell => ?_)
    subst hR
    refine ld1 (cxg _) (i := 0) rfl (hcell 0 _ rfl) rfl ?_
    refine bsplitd (fun h2 => ?_) (fun h2 => ?_)
    · refine nw (by omega) (by omega) ?_
      have e : beyondF M L[k] = true := by simp [beyondF, h2]
      exact ⟨k + 1, by omega, by omega, Ent.mk (fun _ _ h => h) (by rw [st, e, Bool.or_true, if_pos rfl]; rfl) rfl⟩
    · refine nw (by omega) (by omega) ?_
      have e : beyondF M L[k] = false := by simp [beyondF]; omega
      exact ⟨k + 1, by omega, by omega, Ent.mk (fun _ _ h => h) (by rw [st, e, Bool.or_false, ← hx]; rfl) rfl⟩
  rw [List.take_of_length_le (by omega)]
  have hzn : z = nodF M L := by rw [hz, ready_nod h0]
  have hasc : ∀ {k : Nat}, k ≤ n1 - 1 → n1 - 1 ≤ k → (List.range k).all (fun i => decide (L.getD i 0 < L.getD (i + 1) 0)) = ascF L := fun h1 h2 => by unfold ascF; rw [← hll, Nat.le_antisymm h1 h2]
  have hasf : ∀ {k : Nat}, k ≤ n1 - 1 → (List.range k).all (fun i => decide (L.getD i 0 < L.getD (i + 1) 0)) = false → ascF L = false := fun {k} h1 h2 => by
    unfold ascF
    rw [List.all_eq_false] at h2 ⊢
    obtain ⟨i, hi, h⟩ := h2
    exact ⟨i, List.mem_range.2 (by have := List.mem_range.1 hi; omega), h⟩
  refine NeedL.mk (Nat × Int) (fun g => [(1, .v (.slice a1 n1 c1)), (5, .bx 3 0), (6, .v oR.v), (7, .v (.int .i64 z)), (8, .v (.int .i64 g.2)), (10, .v (.int .i64 (g.1 + 1 : Nat)))]) (fun _ => [.hp (Hp.whole w), .box b2 [.int .u8 N, .slice a n c] 24, .hp o.h, .box b5 [.int .i64 M, .slice o.a o.n o.c] 28, .hp oR.h])
    (fun g => g.1 ≤ n1 - 1 ∧ g.2 = if L.any (beyondF M) then 2 else if (List.range g.1).all (fun i => decide (L.getD i 0 < L.getD (i + 1) 0)) then 0 else 8) (fun g => n1 - g.1) (0, if L.any (beyondF M) then 2 else 0) ⟨Nat.zero_le _, by dsimp only; rfl⟩ (Ent.mk (fun _ _ h => h) rfl rfl) ?_
  rintro ⟨k, y⟩ ⟨hk, hy⟩
  dsimp only at *
  have fin : (n1 ≤ k + 1 ∨ y ≠ 0) → y = nodF M L := by
    intro hor
    unfold nodF
    rw [hy]
    cases hA : L.any (beyondF M) with
    | true => rfl
    | false =>
      rw [hA, if_neg (by decide)] at hy
      rw [if_neg Bool.false_ne_true, if_neg Bool.false_ne_true]
      rcases hor with h | h
      · rw [hasc hk (by omega)]
      · cases hB : (List.range k).all (fun i => decide (L.getD i 0 < L.getD (i + 1) 0)) with
        | true => rw [hB, if_pos rfl] at hy; exact absurd hy h
        | false => rw [hasf hk hB]
  have hyz : y = nodF M L → y = z := fun h => by rw [h, hzn]
  have hRe : z ≠ 0 → oR.n = 0 := fun h => by
    have := sR.len
    rw [hRd] at this
    unfold reaR at this
    rw [if_neg (by rw [← hz]; exact h)] at this
    exact this
  refine bsplitd (fun hlt => ?_) (fun hge => ?_)
  · refine bsplitd (fun hy0 => ?_) (fun hy0 => ?_)
    · have hlt' : k + 1 < L.length := by omega
      have e1 : L.getD k 0 = L[k] := by simp [List.getD, show k < L.length by omega]
      have e2 : L.getD (k + 1) 0 = L[k + 1] := by simp [List.getD, hlt']
      have hA : L.any (beyondF M) = false := by
        cases hA : L.any (beyondF M) with
        | false => rfl
        | true => rw [hA, if_pos rfl] at hy; omega
      have hB : (List.range k).all (fun i => decide (L.getD i 0 < L.getD (i + 1) 0)) = true := by
        cases hB : (List.range k).all (fun i => decide (L.getD i 0 < L.getD (i + 1) 0)) with
        | true => rfl
        | false => rw [hA, hB, if_neg (by decide), if_neg (by decide)] at hy; omega
      refine NeedD.by_order (cxg _) (.take 0 <| .take 1 <| .take 2 <| .take 3 <| .take 4 <| .take 5 <| .take 6 <| .take 7 <| .take 8 <| .take 9 <| .done) (by kernel_rfl) ?_
      refine idx (cxg _) (e := 3) rfl hL (k + 1) rfl hlt' (fun b o cs hcs hR hcell => ?_)
      subst hR
      refine ld1 (cxg _) (i := 0) rfl (hcell 0 _ rfl) rfl ?_
      refine nw (by omega) (by omega) ?_
      refine idx (cxg _) (e := 3) rfl hL k (by omega) (by omega) (fun b o cs hcs hR hcell => ?_)
      subst hR
      refine ld1 (cxg _) (i := 0) rfl (hcell 0 _ rfl) rfl ?_
      refine bsplitd (fun h1 => ?_) (fun h1 => ?_)
      · refine nw (by omega) (by omega) ?_
        refine ⟨(k + 1, 8), ⟨by dsimp only; omega, ?_⟩, by dsimp only; omega, Ent.mk (fun _ _ h => h) rfl rfl⟩
        dsimp only
        rw [hA, List.range_succ, List.all_append, hB, List.all_cons, e1, e2, decide_eq_false (by omega)]
        rfl
      · refine nw (by omega) (by omega) ?_
        refine ⟨(k + 1, y), ⟨by dsimp only; omega, ?_⟩, by dsimp only; omega, Ent.mk (fun _ _ h => h) rfl rfl⟩
        dsimp only
        rw [hA, List.range_succ, List.all_append, hB, List.all_cons, e1, e2, decide_eq_true (by omega), hy0]
        rfl
    · have hz1 := hyz (fin (.inr hy0))
      refine dtrue hy0 ?_
      have hn := hRe (by omega)
      refine dtrue (by omega) ?_
      exact ⟨[], ⟨by rw [decide_eq_true (by omega)], rfl⟩, fun w' h => h.pick [0] rfl rfl⟩
  · have hz1 := hyz (fin (.inl (by omega)))
    refine bsplitd (fun hy0 => ?_) (fun hy0 => ?_)
    · have hn := hRe (by omega)
      refine dtrue (by omega) ?_
      exact ⟨[], ⟨by rw [decide_eq_true (by omega)], rfl⟩, fun w' h => h.pick [0] rfl rfl⟩
    have hz0 : z = 0 := by omega
    have hA : L.any (beyondF M) = false := by
      cases hA : L.any (beyondF M) with
      | false => rfl
      | true => unfold nodF at hzn; rw [hA, if_pos rfl] at hzn; omega
    have hr : ∀ x ∈ L, 0 ≤ x ∧ x < (M : Int) := fun x hx => by
      have := List.any_eq_false.1 hA x hx
      unfold beyondF at this
      simp only [Bool.or_eq_true, decide_eq_true_eq, not_or] at this
      omega
    have hb := ofN_lt63 (L := L) fun x hx => by have := hr x hx; omega
    have hh := hul_lt63 hG (by omega) hb M
    have hRR : R = nod (hulM E M (ofN L)) := by
      rw [hRd, hul_rea hG hr]
      unfold reaR
      rw [if_pos (by rw [← hz]; exact hz0), Int.toNat_natCast, lst_rchL]
    have hRl : oR.n < 1000000000 := by have := sR.len; have := nod_len (hulM E M (ofN L)); rw [← hRR] at this; omega
    refine NeedD.by_order (cxg _) (.take 0 <| .take 1 <| .take 2 <| .run 3 <| .run 4 <| .run 5 <| .run 6 <| .take 7 <| .take 8 <| .take 9 <| .take 10 <| .take 11 <| .done) (by kernel_rfl) ?_
    refine callV _ (fun w' hm => modBits_spec w' (hL.mono (encF_mono _) (hm 0 _ rfl)) (fun x hx => by have := hr x hx; omega) (by omega)) ?_
    refine ⟨(by repeat first | exact trivial | refine ⟨.inl rfl, ?_⟩ | refine ⟨.inr rfl, ?_⟩), ?_⟩
    refine callV _ (fun w' hm => modHull_spec M w' (sE.mono (encF_mono _) (hm 2 _ rfl)) hG (by omega) (ofN L) hb) ?_
    refine ⟨(by repeat first | exact trivial | refine ⟨.inl rfl, ?_⟩ | refine ⟨.inr rfl, ?_⟩), ?_⟩
    refine call (fun w' hm => modNodes_spec (hulM E M (ofN L)) hh w') ?_
    rintro _ _ ⟨oN, rfl, rfl, hoN⟩
    rw [← hRR] at hoN
    have sN := OwnO.sl (f := fI) (fun _ => rfl) (by decide) hoN
    refine ⟨(by repeat first | exact trivial | refine ⟨.inl rfl, ?_⟩ | refine ⟨.inr rfl, ?_⟩), ?_⟩
    refine callV _ (fun w' hm => sameInts_spec w' (sR.mono (encF_mono _) (hm 4 _ rfl)) (sN.mono (encF_mono _) (hm 5 _ rfl)) hRl) ?_
    refine ⟨(by repeat first | exact trivial | refine ⟨.inl rfl, ?_⟩ | refine ⟨.inr rfl, ?_⟩), ?_⟩
    refine dtrue rfl ?_
    exact ⟨[], ⟨by rw [decide_eq_true hz0], rfl⟩, fun w' h => h.pick [0] rfl rfl⟩
end Go.Proofs.YtbcjdjlihhlkaaaDoor
