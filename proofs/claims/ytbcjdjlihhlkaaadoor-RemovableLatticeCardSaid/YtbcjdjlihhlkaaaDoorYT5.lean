/- The law RemovableLattice returns true. Its premises are its arguments' form and the table of math/bits. -/
import Derived.Test.YtbcjdjlihhlkaaaDoorXN
namespace Go.Proofs.YtbcjdjlihhlkaaaDoor
open Go Go.RowKit Go.Dw
theorem and_lt63 {a b : Nat} (ha : a < 9223372036854775808) : a &&& b < 9223372036854775808 := Nat.lt_of_le_of_lt Nat.and_le_left ha
set_option maxRecDepth 10000 in
theorem lattice24_ok {a : Option Addr} {n c : Nat} {U : List Int} (N : Int) (w : World) (hU : Sl (encF fY) 1 (Hp.whole w) a n c U) (hN : 0 ≤ N ∧ N ≤ 255) (hUr : ∀ u ∈ U, 0 ≤ u ∧ u ≤ 255) (ed : Int) (hed : 0 ≤ ed ∧ ed ≤ 255) (hT : Tab (Hp.whole w)) :
    CallsE Tryd.prog 8 #[.agg #[.int .u8 N, .slice a n c], .int .u8 ed] w (RetV w (.bool true)) := by
  have hUl := hU.len
  obtain ⟨M, hM⟩ : ∃ M, M = N.toNat % 8 := ⟨_, rfl⟩
  have hM7 : M ≤ 7 := by omega
  obtain ⟨E, hEd⟩ : ∃ E, E = netE M U := ⟨_, rfl⟩
  have hG : Gr M E := hEd ▸ net_gr hM7 U
  have h0 : checkF M E = 0 := hEd ▸ net_check hM7 U
  have kG : ∀ w : World, Sl (encF fY) 1 (Hp.whole w) a n c U → CallsE Tryd.prog 10 #[.agg #[.int .u8 N, .slice a n c]] w (Ret w fun v cs => ∃ o : Dw.Os, v = gv M o.a o.n o.c ∧ cs = [.hp o.h] ∧ OwnO fE 58 2 o E) := fun w h => by
    rw [hEd, hM]; exact Net_spec N w h hN hUr
  obtain ⟨V, hV⟩ : ∃ V, V = U.take (min U.length 39) ++ [ed] := ⟨_, rfl⟩
  have hVr : ∀ u ∈ V, 0 ≤ u ∧ u ≤ 255 := fun u hu => by
    rw [hV] at hu
    rcases List.mem_append.1 hu with h | h
    · exact hUr u (List.mem_of_mem_take h)
    · rw [List.mem_singleton.1 h]; exact hed
  obtain ⟨F, hFd⟩ : ∃ F, F = netE M V := ⟨_, rfl⟩
  have hGF : Gr M F := hFd ▸ net_gr hM7 V
  have h0F : checkF M F = 0 := hFd ▸ net_check hM7 V
  have hfur : E.length < F.length → ∀ x ∈ E, x ∈ F := by
    rw [hEd, hFd, hV]; exact further hM7
  have kG2 : ∀ {a : Option Addr} {n c : Nat} (w : World), Sl (encF fY) 1 (Hp.whole w) a n c V → CallsE Tryd.prog 10 #[.agg #[.int .u8 N, .slice a n c]] w (Ret w fun v cs => ∃ o : Dw.Os, v = gv M o.a o.n o.c ∧ cs = [.hp o.h] ∧ OwnO fE 58 2 o F) := fun w h => by
    rw [hFd, hM]; exact Net_spec N w h hN hVr
  obtain ⟨zc, hzc⟩ : ∃ z, z = checkF M E := ⟨_, rfl⟩
  have hzc0 : zc = 0 := by rw [hzc, h0]
  have hr : resE M E 0 (-1) = 0 := by unfold resE; rw [if_neg (by rw [h0]; decide), if_neg (by omega)]
  have hrF : resE M F 0 (-1) = 0 := by unfold resE; rw [if_neg (by rw [h0F]; decide), if_neg (by omega)]
  obtain ⟨z, hz⟩ : ∃ z, z = resE M E 0 (-1) := ⟨_, rfl⟩
  have hz0 : z = 0 := by rw [hz, hr]
  obtain ⟨zF, hzF⟩ : ∃ z, z = resE M F 0 (-1) := ⟨_, rfl⟩
  have hzF0 : zF = 0 := by rw [hzF, hrF]
  obtain ⟨K, hK⟩ : ∃ K, K = candF M E 0 (-1) := ⟨_, rfl⟩
  obtain ⟨R, hRd⟩ : ∃ K, K = candF M F 0 (-1) := ⟨_, rfl⟩
  have h7 : 2 ^ M ≤ 128 := Nat.pow_le_pow_right (n := 2) (by decide) hM7
  have hKl : K.length ≤ 128 := by rw [hK]; have := candK_len E 0 (-1) (2 ^ M - 2); unfold candF; omega
  have hRl : R.length ≤ 128 := by rw [hRd]; have := candK_len F 0 (-1) (2 ^ M - 2); unfold candF; omega
  have hKr : ∀ x ∈ K, x.length ≤ 64 := by rw [hK]; exact candK_row E 0 (-1) _
  have hRr : ∀ x ∈ R, x.length ≤ 64 := by rw [hRd]; exact candK_row F 0 (-1) _
  have hKs : ∀ L ∈ K, clsE E (ofN L) = true ∧ ofN L < 128 ∧ (∀ v, (ofN L).testBit v = true → v < M) ∧ ofN L ≠ 0 ∧ ofN L ≠ 2 ^ M - 1 ∧ nod (ofN L) = L := fun L h => by rw [hK] at h; exact can_set hM7 h
  have hRs : ∀ L ∈ R, clsE F (ofN L) = true ∧ ofN L < 128 ∧ (∀ v, (ofN L).testBit v = true → v < M) ∧ ofN L ≠ 0 ∧ ofN L ≠ 2 ^ M - 1 ∧ nod (ofN L) = L := fun L h => by rw [hRd] at h; exact can_set hM7 h
  have rgK : ∀ L ∈ K, ∀ x ∈ L, 0 ≤ x ∧ x < 63 := fun L h x hx => by
    obtain ⟨_, _, h3, _, _, h6⟩ := hKs L h
    rw [← h6, nod_rng hG.hN h3] at hx
    obtain ⟨v, g1, _, rfl⟩ := mem_cast.1 hx
    omega
  have rgR : ∀ L ∈ R, ∀ x ∈ L, 0 ≤ x ∧ x < 63 := fun L h x hx => by
    obtain ⟨_, _, h3, _, _, h6⟩ := hRs L h
    rw [← h6, nod_rng hG.hN h3] at hx
    obtain ⟨v, g1, _, rfl⟩ := mem_cast.1 hx
    omega
  have kA : ∀ {a : Option Addr} {n c : Nat} (w : World), Sl (encF fE) 2 (Hp.whole w) a n c E → Tab (Hp.whole w) → CallsE Tryd.prog 12 #[gv M a n c, .int .i64 0, .int .i64 (-1)] w (RetR w K z) := fun w h hT => by
    have := Candidates_spec M 0 (-1) w h (fun _ => by omega) hT
    rw [canR_eq hG hM7 hr] at this
    rw [hK, hz]; exact this
  have kAF : ∀ {a : Option Addr} {n c : Nat} (w : World), Sl (encF fE) 2 (Hp.whole w) a n c F → Tab (Hp.whole w) → CallsE Tryd.prog 12 #[gv M a n c, .int .i64 0, .int .i64 (-1)] w (RetR w R zF) := fun w h hT => by
    have := Candidates_spec M 0 (-1) w h (fun _ => by omega) hT
    rw [canR_eq hGF hM7 hrF] at this
    rw [hRd, hzF]; exact this
  obtain ⟨mR, hmR⟩ : ∃ R, R = minR M E := ⟨_, rfl⟩
  have hmeq : mR = miK M E M := by rw [hmR, min_eq hG hM7 h0]
  have hmRl : mR.length ≤ 7 := by rw [hmeq]; have := miK_len M E M; omega
  have rgM : ∀ L ∈ mR, (∀ x ∈ L, 0 ≤ x ∧ x < 63) ∧ L.length ≤ 64 := fun L hL => by
    rw [hmeq] at hL
    obtain ⟨i, hi, rfl⟩ := List.mem_map.1 hL
    refine ⟨fun x hx => ?_, ?_⟩
    · unfold cls at hx
      obtain ⟨v, h1, _, rfl⟩ := mem_cast.1 hx
      omega
    · unfold cls
      rw [List.length_map]
      have := List.length_filter_le (fun j => eqv M E i j) (List.range M)
      rw [List.length_range] at this
      omega
  have kM : ∀ {a : Option Addr} {n c : Nat} (w : World), Sl (encF fE) 2 (Hp.whole w) a n c E → CallsE Tryd.prog 19 #[gv M a n c] w (RetR w mR zc) := fun w h => by
    rw [hmR, hzc]; exact Minimal_spec M w h
  have hmin : ∀ L ∈ K, mR.any (fun S => decide (((ofN S &&& ofN L : Nat) : Int) = ((ofN S : Nat) : Int))) = true := fun L h => by
    rw [hK] at h; rw [hmR]; exact can_min hG hM7 h0 h
  have hhul : ∀ L ∈ K, reaR M E L = L ∧ readyF M E L = 0 := fun L h => by rw [hK] at h; exact can_hull hG hM7 h0 h
  refine enter (X := cx 172) (cxg _) (args := [.agg #[.int .u8 N, .slice a n c], .int .u8 ed]) [.tmp 4] Tryd.func8 rfl rfl rfl rfl rfl ?_
  intro b2
  refine callV _ (fun w' hm => known24_spec w' (hT.mono (hm 0 _ rfl))) ?_
  refine call (fun w' hm => kG w' (hU.mono (encF_mono _) (hm 0 _ rfl))) ?_
  rintro _ _ ⟨o, rfl, rfl, ho⟩
  have sE := OwnO.sl (f := fE) (fun _ => rfl) (by decide) ho
  have lE := sE.len
  intro b5
  refine call (fun w' hm => kA w' (sE.mono (encF_mono _) (hm 2 _ rfl)) (hT.mono (hm 0 _ rfl))) ?_
  rintro _ _ ⟨aL, nL, cL, hLh, rfl, rfl, sL⟩
  have lL := sL.len
  refine hideQ (fun _ h => h _ _ ?_)
  refine normS [.hp (Hp.whole w), .box b2 [.int .u8 N, .slice a n c] 24, .hp o.h, .box b5 [.int .i64 M, .slice o.a o.n o.c] 28, .hp hLh] rfl ?_
  refine call (fun w' hm => kM w' (sE.mono (encF_mono _) (hm 2 _ rfl))) ?_
  rintro _ _ ⟨aM, nM, cM, hMh, rfl, rfl, sM⟩
  have lM := sM.len
  refine hideQ (fun _ h => h _ _ ?_)
  refine normS [.hp (Hp.whole w), .box b2 [.int .u8 N, .slice a n c] 24, .hp o.h, .box b5 [.int .i64 M, .slice o.a o.n o.c] 28, .hp hLh, .hp hMh] rfl ?_
  intro b34
  refine qMin ?_
  refine slS (cxg _) (e := 5) rfl hU 0 (min n 39) (.inl ⟨rfl, rfl⟩) (.inr ⟨_, _, rfl, by omega⟩) (Nat.zero_le _) (by omega) fun a7 hs7 => ?_
  rw [List.drop_zero] at hs7
  refine app0 (f := fY) (cxg _) (e := 5) rfl (fun _ => rfl) (fun _ => rfl) (k := 0) rfl hs7 rfl (by rw [List.length_take]; omega) fun o6 ho6 => ?_
  intro b44
  refine appO (f := fY) (cxg _) (e := 5) rfl (i := 7) rfl ho6 (j := 8) ed rfl rfl rfl rfl (by rw [List.length_take]; omega) (fun o7 ho7 => ?_)
  rw [show min n 39 = min U.length 39 by rw [hUl], ← hV] at ho7
  have s7 := OwnO.sl (f := fY) (fun _ => rfl) (by decide) ho7
  refine hideQ (fun _ h => h _ _ ?_)
  refine normS [.hp (Hp.whole w), .box b2 [.int .u8 N, .slice o7.a o7.n o7.c] 24, .hp o.h, .box b5 [.int .i64 M, .slice o.a o.n o.c] 28, .hp hLh, .hp hMh, .box b34 [] 5, .hp o7.h, .box b44 [.int .u8 ed] 5] rfl ?_
  refine call (fun w' hm => kG2 w' (s7.mono (encF_mono _) (hm 7 _ rfl))) ?_
  rintro _ _ ⟨oF, rfl, rfl, hoF⟩
  have sF := OwnO.sl (f := fE) (fun _ => rfl) (by decide) hoF
  refine call (fun w' hm => kAF w' (sF.mono (encF_mono _) (hm 9 _ rfl)) (hT.mono (hm 0 _ rfl))) ?_
  rintro _ _ ⟨aR, nR, cR, hRh, rfl, rfl, sR⟩
  have lR := sR.len
  refine dfalse (by omega) ?_
  refine dfalse (by omega) ?_
  refine dfalse (by omega) ?_
  have hbK : ∀ {i : Nat} (hi : i < K.length) (w' : World) {a1 : Option Addr} {n1 c1 : Nat}, Sl (encF fI) 1 (Hp.whole w') a1 n1 c1 K[i] → CallsE Tryd.prog 23 #[.slice a1 n1 c1] w' (RetV w' (.int .i64 (ofN K[i] : Nat))) := fun hi w' _ _ _ h => modBits_spec w' h (rgK _ (List.getElem_mem hi)) (by have := h.len; have := hKr _ (List.getElem_mem hi); omega)
  have hbR : ∀ {i : Nat} (hi : i < R.length) (w' : World) {a1 : Option Addr} {n1 c1 : Nat}, Sl (encF fI) 1 (Hp.whole w') a1 n1 c1 R[i] → CallsE Tryd.prog 23 #[.slice a1 n1 c1] w' (RetV w' (.int .i64 (ofN R[i] : Nat))) := fun hi w' _ _ _ h => modBits_spec w' h (rgR _ (List.getElem_mem hi)) (by have := h.len; have := hRr _ (List.getElem_mem hi); omega)
  have hbM : ∀ {i : Nat} (hi : i < mR.length) (w' : World) {a1 : Option Addr} {n1 c1 : Nat}, Sl (encF fI) 1 (Hp.whole w') a1 n1 c1 mR[i] → CallsE Tryd.prog 23 #[.slice a1 n1 c1] w' (RetV w' (.int .i64 (ofN mR[i] : Nat))) := fun hi w' _ _ _ h => modBits_spec w' h (rgM _ (List.getElem_mem hi)).1 (by have := h.len; have := (rgM _ (List.getElem_mem hi)).2; omega)
  have kE : ∀ {t : Nat}, t < 9223372036854775808 → clsE E t = true → ∀ {a : Option Addr} {n c : Nat} (w : World), Sl (encF fE) 2 (Hp.whole w) a n c E → CallsE Tryd.prog 17 #[gv M a n c, .int .i64 t] w (RetV w (.bool true)) := fun ht hc _ _ _ w h => by
    have := modClosed_spec M w h hG (by omega) _ ht
    rw [hc] at this
    exact this
  refine NeedL.mk Nat (fun i => [(2, .bx 1 0), (5, .bx 3 0), (6, .v (.slice aL nL cL)), (8, .v (.slice aM nM cM)), (10, .v (.slice aR nR cR)), (12, .v (.int .i64 i))]) (fun _ => [.hp (Hp.whole w), .box b2 [.int .u8 N, .slice o7.a o7.n o7.c] 24, .hp o.h, .box b5 [.int .i64 M, .slice o.a o.n o.c] 28, .hp hLh, .hp hMh, .hp o7.h, .hp hRh])
    (fun i => i ≤ nL) (fun i => nL - i) 0 (Nat.zero_le _) (Ent.mk (fun _ _ h => h.pick [0, 1, 2, 3, 4, 5, 7, 10] rfl rfl) rfl rfl) ?_
  rintro i hi
  refine bsplitd (fun hlt => ?_) (fun hge => ?_)
  · have hiK : i < K.length := by omega
    have hmK := List.getElem_mem hiK
    obtain ⟨c1, c2, c3, c4, c5, c6⟩ := hKs _ hmK
    obtain ⟨x, hx⟩ : ∃ x, x = ofN K[i] := ⟨_, rfl⟩
    have kB := hbK hiK
    rw [← hx] at kB c1 c2
    refine idx (cxg _) (e := 35) rfl sL i rfl hiK (fun b9 o9 cs hcs hQ hcell => ?_)
    obtain ⟨a3, n3, c3', rfl, hs3⟩ := hQ
    refine ld1 (cxg _) (i := 4) rfl (hcell 0 _ rfl) rfl ?_
    refine callV _ (fun w' hm => kB w' (hs3.mono (encF_mono _) (hm 4 _ rfl))) ?_
    refine NeedL.mk Nat (fun k => [(2, .bx 1 0), (5, .bx 3 0), (6, .v (.slice aL nL cL)), (8, .v (.slice aM nM cM)), (10, .v (.slice aR nR cR)), (12, .v (.int .i64 i)), (13, .v (.int .i64 x)), (14, .v (.bool false)), (15, .v (.int .i64 k))]) (fun _ => [.hp (Hp.whole w), .box b2 [.int .u8 N, .slice o7.a o7.n o7.c] 24, .hp o.h, .box b5 [.int .i64 M, .slice o.a o.n o.c] 28, .hp hLh, .hp hMh, .hp o7.h, .hp hRh])
      (fun k => k ≤ nL) (fun k => nL - k) 0 (Nat.zero_le _) (Ent.mk (fun _ _ h => h) rfl rfl) ?_
    rintro k hk
    refine bsplitd (fun hkl => ?_) (fun hkg => ?_)
    · have hkK : k < K.length := by omega
      obtain ⟨d1, d2, _⟩ := hKs _ (List.getElem_mem hkK)
      obtain ⟨y, hy⟩ : ∃ y, y = ofN K[k] := ⟨_, rfl⟩
      have kB2 := hbK hkK
      rw [← hy] at kB2 d1 d2
      refine NeedD.cut Unit (fun _ => [(2, .bx 1 0), (5, .bx 3 0), (6, .v (.slice aL nL cL)), (8, .v (.slice aM nM cM)), (10, .v (.slice aR nR cR)), (12, .v (.int .i64 i)), (13, .v (.int .i64 x)), (14, .v (.bool false)), (15, .v (.int .i64 k)), (101, .v (.bool false))]) (fun _ => [.hp (Hp.whole w), .box b2 [.int .u8 N, .slice o7.a o7.n o7.c] 24, .hp o.h, .box b5 [.int .i64 M, .slice o.a o.n o.c] 28, .hp hLh, .hp hMh, .hp o7.h, .hp hRh]) (fun _ => True) (NeedD.by_order (cxg _) (.take 0 <| .take 1 <| .take 2 <| .take 3 <| .take 4 <| .take 5 <| .run 6 <| .take 7 <| .run 8 <| .take 9 <| .take 10 <| .take 11 <| .take 12 <| .take 13 <| .take 14 <| .take 15 <| .take 16 <| .run 17 <| .take 18 <| .run 19 <| .take 20 <| .take 21 <| .done) (by kernel_rfl) ?_) ?_
      · refine idx (cxg _) (e := 35) rfl sL k rfl hkK (fun b9 o9 cs hcs hQ hcell => ?_)
        obtain ⟨a4, n4, c4', rfl, hs4⟩ := hQ
        refine ld1 (cxg _) (i := 4) rfl (hcell 0 _ rfl) rfl ?_
        refine callV _ (fun w' hm => kB2 w' (hs4.mono (encF_mono _) (hm 4 _ rfl))) ?_
        refine ⟨(by repeat first | exact trivial | refine ⟨.inl rfl, ?_⟩ | refine ⟨.inr rfl, ?_⟩), ?_⟩
        refine qOrI x y rfl rfl (by omega) (by omega) ?_
        refine callV _ (fun w' hm => kE (or_lt63 (by omega) (by omega)) (cls_or c1 d1) w' (sE.mono (encF_mono _) (hm 2 _ rfl))) ?_
        refine ⟨(by repeat first | exact trivial | refine ⟨.inl rfl, ?_⟩ | refine ⟨.inr rfl, ?_⟩), ?_⟩
        refine idx (cxg _) (e := 35) rfl sL k rfl hkK (fun b9 o9 cs hcs hQ hcell => ?_)
        obtain ⟨a4, n4, c4', rfl, hs4⟩ := hQ
        refine ld1 (cxg _) (i := 4) rfl (hcell 0 _ rfl) rfl ?_
        refine callV _ (fun w' hm => kB2 w' (hs4.mono (encF_mono _) (hm 4 _ rfl))) ?_
        refine ⟨(by repeat first | exact trivial | refine ⟨.inl rfl, ?_⟩ | refine ⟨.inr rfl, ?_⟩), ?_⟩
        refine qAndI x y rfl rfl (by omega) (by omega) ?_
        refine callV _ (fun w' hm => kE (and_lt63 (by omega)) (cls_and c1 d1) w' (sE.mono (encF_mono _) (hm 2 _ rfl))) ?_
        refine ⟨(by repeat first | exact trivial | refine ⟨.inl rfl, ?_⟩ | refine ⟨.inr rfl, ?_⟩), ?_⟩
        exact ⟨(), trivial, Ent.mk (fun _ _ h => h) rfl rfl⟩
      rintro ⟨⟩ _ _
      dsimp only
      refine nw (by omega) (by omega) ?_
      exact ⟨k + 1, by omega, by omega, Ent.mk (fun _ _ h => h) rfl rfl⟩
    · refine NeedL.mk (Nat × Bool) (fun g => [(2, .bx 1 0), (5, .bx 3 0), (6, .v (.slice aL nL cL)), (8, .v (.slice aM nM cM)), (10, .v (.slice aR nR cR)), (12, .v (.int .i64 i)), (13, .v (.int .i64 x)), (14, .v (.bool g.2)), (16, .v (.int .i64 g.1))]) (fun _ => [.hp (Hp.whole w), .box b2 [.int .u8 N, .slice o7.a o7.n o7.c] 24, .hp o.h, .box b5 [.int .i64 M, .slice o.a o.n o.c] 28, .hp hLh, .hp hMh, .hp o7.h, .hp hRh])
        (fun g => g.1 ≤ nM ∧ g.2 = (mR.take g.1).any (fun S => decide (((ofN S &&& x : Nat) : Int) = ((ofN S : Nat) : Int)))) (fun g => nM - g.1) (0, false) ⟨Nat.zero_le _, rfl⟩ (Ent.mk (fun _ _ h => h) rfl rfl) ?_
      rintro ⟨k, f⟩ ⟨hk, hf⟩
      dsimp only at *
      refine bsplitd (fun hkl => ?_) (fun hkg => ?_)
      · have hkM : k < mR.length := by omega
        have st := any_snoc (p := fun S => decide (((ofN S &&& x : Nat) : Int) = ((ofN S : Nat) : Int))) hkM
        rw [← hf] at st
        have y63 := ofN_lt63 (rgM _ (List.getElem_mem hkM)).1
        obtain ⟨y, hy⟩ : ∃ y, y = ofN mR[k] := ⟨_, rfl⟩
        have kB2 := hbM hkM
        rw [← hy] at kB2 st y63
        refine NeedD.cut Unit (fun _ => [(2, .bx 1 0), (5, .bx 3 0), (6, .v (.slice aL nL cL)), (8, .v (.slice aM nM cM)), (10, .v (.slice aR nR cR)), (12, .v (.int .i64 i)), (13, .v (.int .i64 x)), (14, .v (.bool (f || decide (((y &&& x : Nat) : Int) = ((y : Nat) : Int))))), (16, .v (.int .i64 k))]) (fun _ => [.hp (Hp.whole w), .box b2 [.int .u8 N, .slice o7.a o7.n o7.c] 24, .hp o.h, .box b5 [.int .i64 M, .slice o.a o.n o.c] 28, .hp hLh, .hp hMh, .hp o7.h, .hp hRh]) (fun _ => True) (NeedD.by_order (cxg _) (.take 0 <| .take 1 <| .take 2 <| .take 3 <| .take 4 <| .take 5 <| .take 7 <| .take 9 <| .take 10 <| .take 11 <| .take 12 <| .run 6 <| .take 8 <| .run 13 <| .take 14 <| .take 15 <| .take 16 <| .done) (by kernel_rfl) ?_) ?_
        · cases f with
          | true =>
            refine ⟨(by repeat first | exact trivial | refine ⟨.inl rfl, ?_⟩ | refine ⟨.inr rfl, ?_⟩), ?_⟩
            refine ⟨(by repeat first | exact trivial | refine ⟨.inl rfl, ?_⟩ | refine ⟨.inr rfl, ?_⟩), ?_⟩
            exact ⟨(), trivial, Ent.mk (fun _ _ h => h) rfl rfl⟩
          | false =>
            refine idx (cxg _) (e := 35) rfl sM k rfl hkM (fun b9 o9 cs hcs hQ hcell => ?_)
            obtain ⟨a4, n4, c4', rfl, hs4⟩ := hQ
            refine ld1 (cxg _) (i := 5) rfl (hcell 0 _ rfl) rfl ?_
            refine idx (cxg _) (e := 35) rfl sM k rfl hkM (fun b9 o9 cs hcs hQ hcell => ?_)
            obtain ⟨a5, n5, c5', rfl, hs5⟩ := hQ
            refine ld1 (cxg _) (i := 5) rfl (hcell 0 _ rfl) rfl ?_
            refine callV _ (fun w' hm => kB2 w' (hs4.mono (encF_mono _) (hm 5 _ rfl))) ?_
            refine ⟨(by repeat first | exact trivial | refine ⟨.inl rfl, ?_⟩ | refine ⟨.inr rfl, ?_⟩), ?_⟩
            refine qAndI y x rfl rfl y63 (by omega) ?_
            refine callV _ (fun w' hm => kB2 w' (hs5.mono (encF_mono _) (hm 5 _ rfl))) ?_
            refine ⟨(by repeat first | exact trivial | refine ⟨.inl rfl, ?_⟩ | refine ⟨.inr rfl, ?_⟩), ?_⟩
            exact ⟨(), trivial, Ent.mk (fun _ _ h => h) rfl rfl⟩
        rintro ⟨⟩ _ _
        dsimp only
        refine nw (by omega) (by omega) ?_
        exact ⟨(k + 1, f || decide (((y &&& x : Nat) : Int) = ((y : Nat) : Int))), ⟨by dsimp only; omega, by dsimp only; rw [st]⟩, by dsimp only; omega, Ent.mk (fun _ _ h => h) rfl rfl⟩
      · have hft : f = true := by
          rw [hf, List.take_of_length_le (by omega), hx]; exact hmin _ hmK
        subst hft
        obtain ⟨e1, e2⟩ := hhul _ hmK
        have kU : ∀ {a a1 : Option Addr} {n c n1 c1 : Nat} (w : World), Sl (encF fE) 2 (Hp.whole w) a n c E → Sl (encF fI) 1 (Hp.whole w) a1 n1 c1 K[i] → CallsE Tryd.prog 21 #[gv M a n c, .slice a1 n1 c1] w (RetI w K[i] 0) := fun w h h' => by
          have := Hull_spec M w h h' (by have := h'.len; have := hKr _ hmK; omega)
          rw [e1, e2] at this; exact this
        refine NeedD.cut Dw.Os (fun g => [(2, .bx 1 0), (5, .bx 3 0), (6, .v (.slice aL nL cL)), (8, .v (.slice aM nM cM)), (10, .v (.slice aR nR cR)), (12, .v (.int .i64 i)), (13, .v (.int .i64 x)), (14, .v (.bool true)), (17, .v g.v), (18, .v (.int .i64 0))]) (fun g => [.hp (Hp.whole w), .box b2 [.int .u8 N, .slice o7.a o7.n o7.c] 24, .hp o.h, .box b5 [.int .i64 M, .slice o.a o.n o.c] 28, .hp hLh, .hp hMh, .hp o7.h, .hp hRh, .hp g.h]) (fun g => OwnO fI 3 1 g K[i]) (NeedD.by_order (cxg _) (.take 0 <| .take 1 <| .take 2 <| .take 3 <| .take 4 <| .run 5 <| .take 6 <| .take 7 <| .take 8 <| .take 9 <| .take 10 <| .done) (by kernel_rfl) ?_) ?_
        · refine idx (cxg _) (e := 35) rfl sL i rfl hiK (fun b9 o9 cs hcs hQ hcell => ?_)
          obtain ⟨a4, n4, c4', rfl, hs4⟩ := hQ
          refine ld1 (cxg _) (i := 4) rfl (hcell 0 _ rfl) rfl ?_
          refine call (fun w' hm => kU w' (sE.mono (encF_mono _) (hm 2 _ rfl)) (hs4.mono (encF_mono _) (hm 4 _ rfl))) ?_
          rintro _ _ ⟨oH, rfl, rfl, hoH⟩
          refine ⟨(by repeat first | exact trivial | refine ⟨.inl rfl, ?_⟩ | refine ⟨.inr rfl, ?_⟩), ?_⟩
          exact ⟨oH, hoH, Ent.mk (fun _ _ h => h) rfl rfl⟩
        rintro oH hoH _
        dsimp only
        have sH := OwnO.sl (f := fI) (fun _ => rfl) (by decide) hoH
        refine hideQ (fun q' hq' => ?_)
        refine idx (cxg _) (e := 35) rfl sL i rfl hiK (fun b9 o9 cs hcs hQ hcell => ?_)
        obtain ⟨a4, n4, c4', rfl, hs4⟩ := hQ
        refine ld1 (cxg _) (i := 4) rfl (hcell 0 _ rfl) rfl ?_
        refine callV _ (fun w' hm => sameInts_spec w' (sH.mono (encF_mono _) (hm 8 _ rfl)) (hs4.mono (encF_mono _) (hm 4 _ rfl)) (by have := sH.len; have := hKr _ hmK; omega)) ?_
        refine hq' _ _ ?_
        refine bfalse (by simp) ?_
        refine nw (by omega) (by omega) ?_
        exact ⟨i + 1, by omega, by omega, Ent.mk (fun _ _ h => h.pick [0, 1, 2, 3, 4, 5, 6, 7] rfl rfl) rfl rfl⟩
  · refine NeedL.mk Nat (fun i => [(2, .bx 1 0), (5, .bx 3 0), (6, .v (.slice aL nL cL)), (8, .v (.slice aM nM cM)), (10, .v (.slice aR nR cR)), (19, .v (.int .i64 i))]) (fun _ => [.hp (Hp.whole w), .box b2 [.int .u8 N, .slice o7.a o7.n o7.c] 24, .hp o.h, .box b5 [.int .i64 M, .slice o.a o.n o.c] 28, .hp hLh, .hp hMh, .hp o7.h, .hp hRh])
      (fun i => i ≤ nR) (fun i => nR - i) 0 (Nat.zero_le _) (Ent.mk (fun _ _ h => h) rfl rfl) ?_
    rintro i hi
    refine NeedD.cut Unit (fun _ => [(2, .bx 1 0), (5, .bx 3 0), (6, .v (.slice aL nL cL)), (8, .v (.slice aM nM cM)), (10, .v (.slice aR nR cR)), (19, .v (.int .i64 i)), (161, .v (.bool (decide ((i : Int) < (nR : Int)) && decide (((F.length : Nat) : Int) > ((E.length : Nat) : Int)))))]) (fun _ => [.hp (Hp.whole w), .box b2 [.int .u8 N, .slice o7.a o7.n o7.c] 24, .hp o.h, .box b5 [.int .i64 M, .slice o.a o.n o.c] 28, .hp hLh, .hp hMh, .hp o7.h, .hp hRh]) (fun _ => True) (NeedD.by_order (cxg _) (.take 0 <| .take 1 <| .take 2 <| .take 3 <| .take 4 <| .take 5 <| .take 9 <| .take 10 <| .take 11 <| .run 6 <| .take 7 <| .take 8 <| .take 12 <| .take 13 <| .done) (by kernel_rfl) ?_) ?_
    · refine bsplitd (fun hlt => ?_) (fun hge => ?_)
      · refine call (fun w' hm => kG2 w' (s7.mono (encF_mono _) (hm 6 _ rfl))) ?_
        rintro _ _ ⟨o9, rfl, rfl, ho9⟩
        have l9 := ho9.len
        refine ⟨(by repeat first | exact trivial | refine ⟨.inl rfl, ?_⟩ | refine ⟨.inr rfl, ?_⟩), ?_⟩
        exact ⟨(), trivial, Ent.mk (fun _ _ h => h.pick [0, 1, 2, 3, 4, 5, 6, 7] rfl rfl) (by rw [decide_eq_true hlt, Bool.true_and, ← l9, ← lE]; rfl) rfl⟩
      · refine ⟨(by repeat first | exact trivial | refine ⟨.inl rfl, ?_⟩ | refine ⟨.inr rfl, ?_⟩), ?_⟩
        exact ⟨(), trivial, Ent.mk (fun _ _ h => h) (by rw [decide_eq_false hge, Bool.false_and]; rfl) rfl⟩
    rintro ⟨⟩ _ _
    dsimp only
    refine bsplit (fun hc => ?_) (fun hc => ?_)
    · rw [Bool.and_eq_true, decide_eq_true_eq, decide_eq_true_eq] at hc
      have hiR : i < R.length := by omega
      obtain ⟨d1, d2, _⟩ := hRs _ (List.getElem_mem hiR)
      obtain ⟨y, hy⟩ : ∃ y, y = ofN R[i] := ⟨_, rfl⟩
      have kB2 := hbR hiR
      rw [← hy] at kB2 d1 d2
      have d1 := cls_less (hfur (by omega)) d1
      refine NeedD.cut Unit (fun _ => [(2, .bx 1 0), (5, .bx 3 0), (6, .v (.slice aL nL cL)), (8, .v (.slice aM nM cM)), (10, .v (.slice aR nR cR)), (19, .v (.int .i64 i)), (171, .v (.bool false))]) (fun _ => [.hp (Hp.whole w), .box b2 [.int .u8 N, .slice o7.a o7.n o7.c] 24, .hp o.h, .box b5 [.int .i64 M, .slice o.a o.n o.c] 28, .hp hLh, .hp hMh, .hp o7.h, .hp hRh]) (fun _ => True) (NeedD.by_order (cxg _) (.take 0 <| .take 1 <| .take 2 <| .take 3 <| .take 4 <| .run 5 <| .run 6 <| .take 7 <| .done) (by kernel_rfl) ?_) ?_
      · refine idx (cxg _) (e := 35) rfl sR i rfl hiR (fun b9 o9 cs hcs hQ hcell => ?_)
        obtain ⟨a4, n4, c4', rfl, hs4⟩ := hQ
        refine ld1 (cxg _) (i := 7) rfl (hcell 0 _ rfl) rfl ?_
        refine callV _ (fun w' hm => kB2 w' (hs4.mono (encF_mono _) (hm 7 _ rfl))) ?_
        refine ⟨(by repeat first | exact trivial | refine ⟨.inl rfl, ?_⟩ | refine ⟨.inr rfl, ?_⟩), ?_⟩
        refine callV _ (fun w' hm => kE (by omega) d1 w' (sE.mono (encF_mono _) (hm 2 _ rfl))) ?_
        refine ⟨(by repeat first | exact trivial | refine ⟨.inl rfl, ?_⟩ | refine ⟨.inr rfl, ?_⟩), ?_⟩
        exact ⟨(), trivial, Ent.mk (fun _ _ h => h) rfl rfl⟩
      rintro ⟨⟩ _ _
      dsimp only
      refine nw (by omega) (by omega) ?_
      exact ⟨i + 1, by omega, by omega, Ent.mk (fun _ _ h => h) rfl rfl⟩
    · exact ⟨[], ⟨rfl, rfl⟩, fun w' h => h.pick [0] rfl rfl⟩
end Go.Proofs.YtbcjdjlihhlkaaaDoor
