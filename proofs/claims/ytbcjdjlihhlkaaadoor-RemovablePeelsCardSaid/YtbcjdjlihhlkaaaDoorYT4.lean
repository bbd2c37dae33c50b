/- The law RemovablePeels returns true. Its premises are its argument's form and the table of math/bits. -/
import Derived.Test.YtbcjdjlihhlkaaaDoorXM
namespace Go.Proofs.YtbcjdjlihhlkaaaDoor
open Go Go.RowKit Go.Dw
section
variable {N : Nat} {E : List (Int × Int)}
theorem peel_succ (hG : Gr N E) {k : Nat} (hk : k < (compF N E).length) : ∃ c ∈ compF N E, peelK N E (k + 1) = ((peelK N E k).1 ++ [c], (peelK N E k).2 ||| ofN c) := by
  obtain ⟨c, hf⟩ := peel_find hG (peel_inv hG k (by omega)) hk
  exact ⟨c, List.mem_of_find?_eq_some hf, by rw [peelK, peelS, hf]⟩
theorem peel_take (hG : Gr N E) {i : Nat} : ∀ j, j ≤ (compF N E).length → i ≤ j → (peelK N E j).1.take i = (peelK N E i).1
  | 0, _, hi => by
    have : i = 0 := by omega
    subst this; rfl
  | j + 1, hj, hi => by
    by_cases e : i = j + 1
    · subst e
      rw [List.take_of_length_le (by rw [(peel_inv hG (j + 1) hj).len]; exact Nat.le_refl _)]
    · obtain ⟨c, _, h⟩ := peel_succ hG (k := j) (by omega)
      rw [h, List.take_append_of_le_length (by rw [(peel_inv hG j (by omega)).len]; omega)]
      exact peel_take hG j (by omega) (by omega)
theorem peel_or (hG : Gr N E) {i : Nat} (hi : i < (peelF N E).length) : (peelK N E (i + 1)).2 = (peelK N E i).2 ||| ofN (peelF N E)[i] ∧ (peelF N E)[i] ∈ compF N E ∧ i < (compF N E).length := by
  have hl : (peelF N E).length = (compF N E).length := (peel_inv hG (compF N E).length (Nat.le_refl _)).len
  obtain ⟨c, hc, h⟩ := peel_succ hG (k := i) (by omega)
  have e1 := peel_take hG (i := i + 1) (compF N E).length (Nat.le_refl _) (by omega)
  have e2 := peel_take hG (i := i) (compF N E).length (Nat.le_refl _) (by omega)
  have e3 : (peelF N E).take (i + 1) = (peelF N E).take i ++ [c] := by
    unfold peelF
    rw [e1, e2, h]
  rw [List.take_succ_eq_append_getElem hi] at e3
  have e4 : (peelF N E)[i] = c := (List.cons.inj (List.append_cancel_left e3)).1
  rw [e4, h]
  exact ⟨rfl, hc, by omega⟩
end
set_option maxRecDepth 10000 in
theorem peels24_ok {a : Option Addr} {n c : Nat} {U : List Int} (N : Int) (w : World) (hU : Sl (encF fY) 1 (Hp.whole w) a n c U) (hN : 0 ≤ N ∧ N ≤ 255) (hUr : ∀ u ∈ U, 0 ≤ u ∧ u ≤ 255) (hT : Tab (Hp.whole w)) :
    CallsE Tryd.prog 7 #[.agg #[.int .u8 N, .slice a n c]] w (RetV w (.bool true)) := by
  obtain ⟨M, hM⟩ : ∃ M, M = N.toNat % 8 := ⟨_, rfl⟩
  have hM7 : M ≤ 7 := by omega
  obtain ⟨E, hEd⟩ : ∃ E, E = netE M U := ⟨_, rfl⟩
  have hG : Gr M E := hEd ▸ net_gr hM7 U
  have h0 : checkF M E = 0 := hEd ▸ net_check hM7 U
  have kG : ∀ w : World, Sl (encF fY) 1 (Hp.whole w) a n c U → CallsE Tryd.prog 10 #[.agg #[.int .u8 N, .slice a n c]] w (Ret w fun v cs => ∃ o : Dw.Os, v = gv M o.a o.n o.c ∧ cs = [.hp o.h] ∧ OwnO fE 58 2 o E) := fun w h => by
    rw [hEd, hM]; exact Net_spec N w h hN hUr
  obtain ⟨zc, hzc⟩ : ∃ z, z = checkF M E := ⟨_, rfl⟩
  have hzc0 : zc = 0 := by rw [hzc, h0]
  obtain ⟨K, hK⟩ : ∃ K, K = peelF M E := ⟨_, rfl⟩
  have hKl : K.length ≤ 7 := by
    rw [hK, show (peelF M E).length = (compF M E).length from (peel_inv hG (compF M E).length (Nat.le_refl _)).len]
    have := comp_le M E; omega
  have hKC : K.length = (compF M E).length := by rw [hK]; exact (peel_inv hG (compF M E).length (Nat.le_refl _)).len
  have hrng : ∀ c ∈ compF M E, ∀ x ∈ c, 0 ≤ x ∧ x < 63 := fun c hc x hx => by
    obtain ⟨r, hr, rfl⟩ := List.mem_map.1 hc
    unfold cls at hx
    obtain ⟨v, h1, _, rfl⟩ := mem_cast.1 hx
    omega
  have hlen : ∀ c ∈ compF M E, c.length < 1000000000 := fun c hc => by
    obtain ⟨r, hr, rfl⟩ := List.mem_map.1 hc
    unfold cls
    rw [List.length_map]
    have := List.length_filter_le (fun j => eqv M E r j) (List.range M)
    rw [List.length_range] at this
    omega
  have hKm : ∀ c ∈ K, c ∈ compF M E := by rw [hK]; exact (peel_inv hG (compF M E).length (Nat.le_refl _)).sub
  have kP : ∀ {a : Option Addr} {n c : Nat} (w : World), Sl (encF fE) 2 (Hp.whole w) a n c E → CallsE Tryd.prog 25 #[gv M a n c] w (RetR w K zc) := fun w h => by
    have := Peel_spec M w h
    unfold peeR at this
    rw [if_pos h0, Int.toNat_natCast] at this
    rw [hK, hzc]; exact this
  have kQ : ∀ {a : Option Addr} {n c : Nat} (w : World), Sl (encF fE) 2 (Hp.whole w) a n c E → CallsE Tryd.prog 26 #[gv M a n c] w (Ret w fun v cs => ∃ a' n' c' h, v = .slice a' n' c' ∧ cs = [.hp h] ∧ Sl (encS (encF fI) 1) 1 h a' n' c' K) := fun w h => by
    rw [hK]; exact modPeel_spec M w h hG (by omega)
  obtain ⟨P, hP⟩ : ∃ P : Nat, P = 2 ^ M := ⟨_, rfl⟩
  have hP7 : P ≤ 128 := by rw [hP]; exact Nat.pow_le_pow_right (n := 2) (by decide) hM7
  have hP0 : 0 < P := by rw [hP]; exact Nat.two_pow_pos M
  refine enter (X := cx 49) (cxg _) (args := [.agg #[.int .u8 N, .slice a n c]]) [.tmp 2] Tryd.func7 rfl rfl rfl rfl rfl ?_
  intro b1
  refine callV _ (fun w' hm => known24_spec w' (hT.mono (hm 0 _ rfl))) ?_
  refine call (fun w' hm => kG w' (hU.mono (encF_mono _) (hm 0 _ rfl))) ?_
  rintro _ _ ⟨o, rfl, rfl, ho⟩
  have sE := OwnO.sl (f := fE) (fun _ => rfl) (by decide) ho
  intro b3
  refine call (fun w' hm => kP w' (sE.mono (encF_mono _) (hm 2 _ rfl))) ?_
  rintro _ _ ⟨aA, nA, cA, hA, rfl, rfl, sA⟩
  have lA := sA.len
  refine hideQ (fun _ h => h _ _ ?_)
  refine normS [.hp (Hp.whole w), .box b1 [.int .u8 N, .slice a n c] 24, .hp o.h, .box b3 [.int .i64 M, .slice o.a o.n o.c] 28, .hp hA] rfl ?_
  refine hideQ (fun q' hq' => ?_)
  refine call (fun w' hm => kQ w' (sE.mono (encF_mono _) (hm 2 _ rfl))) ?_
  rintro _ _ ⟨aB, nB, cB, hB, rfl, rfl, sB⟩
  refine callV _ (fun w' hm => sameSets_spec w' (sA.mono (encS_mono (encF_mono _) _) (hm 4 _ rfl)) (sB.mono (encS_mono (encF_mono _) _) (hm 5 _ rfl)) (by omega) (fun x hx => hlen x (hKm x hx))) ?_
  refine bfalse (by simp) ?_
  refine hq' _ _ ?_
  refine dfalse (by omega) ?_
  refine NeedL.mk Nat (fun i => [(3, .bx 3 0), (4, .v (.slice aA nA cA)), (6, .v (.int .i64 ((peelK M E i).2 : Nat))), (7, .v (.int .i64 i))]) (fun _ => [.hp (Hp.whole w), .box b1 [.int .u8 N, .slice a n c] 24, .hp o.h, .box b3 [.int .i64 M, .slice o.a o.n o.c] 28, .hp hA])
    (fun i => i ≤ nA) (fun i => nA - i) 0 (Nat.zero_le _) (Ent.mk (fun _ _ h => h.pick [0, 1, 2, 3, 4] rfl rfl) rfl rfl) ?_
  rintro i hi
  refine bsplitd (fun hlt => ?_) (fun hge => ?_)
  · have hiK : i < K.length := by omega
    have hor : (peelK M E (i + 1)).2 = (peelK M E i).2 ||| ofN K[i] ∧ K[i] ∈ compF M E ∧ i < (compF M E).length := by
      subst hK; exact peel_or hG hiK
    obtain ⟨q1, q2, q3⟩ := hor
    obtain ⟨G1, hG1⟩ : ∃ G, G = (peelK M E i).2 := ⟨_, rfl⟩
    have l1 : G1 < 9223372036854775808 := by rw [hG1]; exact peel_lt63 hG (by omega) (by omega)
    have l2 := ofN_lt63 (hrng _ q2)
    have hcl : clsE E (G1 ||| ofN K[i]) = true := by rw [hG1, ← q1]; exact peel_cls hG (i + 1) (by omega)
    have kE : ∀ {a : Option Addr} {n c : Nat} (w : World), Sl (encF fE) 2 (Hp.whole w) a n c E → CallsE Tryd.prog 17 #[gv M a n c, .int .i64 (G1 ||| ofN K[i] : Nat)] w (RetV w (.bool true)) := fun w h => by
      rw [← hcl]; exact modClosed_spec M w h hG (by omega) (G1 ||| ofN K[i]) (or_lt63 l1 l2)
    have kB := fun (w' : World) {a1 : Option Addr} {n1 c1 : Nat} (h : Sl (encF fI) 1 (Hp.whole w') a1 n1 c1 K[i]) => modBits_spec w' h (hrng _ q2) (by have := h.len; have := hlen _ q2; omega)
    rw [← hG1]
    refine idx (cxg _) (e := 35) rfl sA i rfl hiK (fun b o cs hcs hR hcell => ?_)
    obtain ⟨a3, n3, c3, rfl, hs3⟩ := hR
    refine ld1 (cxg _) (i := 4) rfl (hcell 0 _ rfl) rfl ?_
    refine callV _ (fun w' hm => kB w' (hs3.mono (encF_mono _) (hm 4 _ rfl))) ?_
    refine qOrI G1 (ofN K[i]) rfl rfl l1 l2 ?_
    refine callV _ (fun w' hm => kE w' (sE.mono (encF_mono _) (hm 2 _ rfl))) ?_
    refine nw (by omega) (by omega) ?_
    exact ⟨i + 1, by omega, by omega, Ent.mk (fun _ _ h => h) (by rw [q1, ← hG1]; rfl) rfl⟩
  · have hfull : (peelK M E i).2 = P - 1 := by rw [show i = (compF M E).length by omega, peel_full hG, hP]
    rw [hfull]
    refine qShlI M rfl rfl (by omega) ?_
    rw [← hP]
    refine nw (by omega) (by omega) ?_
    exact ⟨[], ⟨by rw [decide_eq_true (show ((P - 1 : Nat) : Int) = (P : Int) - 1 by omega)], rfl⟩, fun w' h => h.pick [0] rfl rfl⟩
end Go.Proofs.YtbcjdjlihhlkaaaDoor
