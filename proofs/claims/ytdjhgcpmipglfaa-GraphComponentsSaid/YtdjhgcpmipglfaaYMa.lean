/- The law GraphMirrors returns true. Its premises are its arguments' form. -/
import Derived.Test.YtdjhgcpmipglfaaYM8
import Derived.Test.YtdjhgcpmipglfaaYP7
namespace Go.Proofs.Ytdjhgcpmipglfaa
open Go Go.RowKit Go.Dw
theorem comp_row {N : Nat} {E : List (Int × Int)} {s : List Int} (h : s ∈ compF N E) : s.length ≤ N := by
  unfold compF at h
  obtain ⟨k, _, rfl⟩ := List.mem_map.1 h
  exact cls_len N E k
set_option maxRecDepth 10000 in
theorem mirrors_ok {a : Option Addr} {n c : Nat} {E : List (Int × Int)} (N : Int) (w : World) (hL : Sl (encF fE) 2 (Hp.whole w) a n c E) :
    CallsE Try.prog 11 #[gv N a n c] w (RetV w (.bool true)) := by
  have hlen := hL.len
  refine enter (X := cx 135) (cxg _) (args := [.agg #[.int .i64 N, .slice a n c]]) [.tmp 2] Try.func11 rfl rfl rfl rfl rfl ?_
  intro b1
  refine callV _ (fun w' _ => known_spec w') ?_
  refine callV _ (fun w' hm => fine_spec N w' (hL.mono (encF_mono _) (hm 0 _ rfl))) ?_
  refine bsplit (fun h1 => ?_) (fun h1 => ?_)
  · refine callV _ (fun w' _ => known_spec w') ?_
    exact ⟨[], ⟨rfl, rfl⟩, fun w' h => h.pick [0] rfl rfl⟩
  rw [Bool.not_eq_false'] at h1
  obtain ⟨M, rfl, hM8, hEl, hG, hs, h0⟩ := fineF_ok h1
  have h0r := rev_check hG hs
  have hrl : (revF E).length = E.length := by unfold revF; rw [sortF_len, List.length_map]
  obtain ⟨z, hz⟩ : ∃ z : Int, z = checkF M E := ⟨_, rfl⟩
  obtain ⟨y, hy⟩ : ∃ z : Int, z = checkF M (revF E) := ⟨_, rfl⟩
  have qz : z = 0 := by rw [hz, h0]
  have qy : y = 0 := by rw [hy, h0r]
  obtain ⟨F, hF⟩ : ∃ F, F = revF E := ⟨_, rfl⟩
  obtain ⟨AA, hAA⟩ : ∃ R, R = (List.range M).map fun x : Nat => reaK M E [(x : Int)] M := ⟨_, rfl⟩
  obtain ⟨BB, hBB⟩ : ∃ R, R = (List.range M).map fun x : Nat => reaK M F [(x : Int)] M := ⟨_, rfl⟩
  obtain ⟨CC, hCC⟩ : ∃ R, R = compF M E := ⟨_, rfl⟩
  obtain ⟨PP, hPP⟩ : ∃ R, R = compF M (bothE M E) := ⟨_, rfl⟩
  have kV : ∀ {a : Option Addr} {n c : Nat} (w : World), Sl (encF fE) 2 (Hp.whole w) a n c E → CallsE Try.prog 53 #[gv M a n c] w (RetG w ((M : Int), F, z)) := fun w h => by
    have := Reverse_spec M w h
    unfold revR at this
    rw [if_pos h0] at this
    rw [hF, qz]; exact this
  have kA : ∀ {a : Option Addr} {n c : Nat} (w : World), Sl (encF fE) 2 (Hp.whole w) a n c E → CallsE Try.prog 62 #[gv M a n c] w (RetR w AA z) := fun w h => by
    have := Closure_spec M w h
    unfold closR at this
    rw [if_pos h0, Int.toNat_natCast, closR_eq] at this
    rw [hAA, hz]; exact this
  have kB : ∀ {a : Option Addr} {n c : Nat} (w : World), Sl (encF fE) 2 (Hp.whole w) a n c F → CallsE Try.prog 62 #[gv M a n c] w (RetR w BB y) := fun w h => by
    have := Closure_spec M w h
    unfold closR at this
    rw [if_pos (by rw [hF]; exact h0r), Int.toNat_natCast, closR_eq] at this
    rw [hBB, hy, ← hF]; exact this
  have kC : ∀ {a : Option Addr} {n c : Nat} (w : World), Sl (encF fE) 2 (Hp.whole w) a n c E → CallsE Try.prog 45 #[gv M a n c] w (RetR w CC z) := fun w h => by
    have := Components_spec M w h
    unfold compR at this
    rw [if_pos h0, Int.toNat_natCast] at this
    rw [hCC, hz]; exact this
  have kD : ∀ {a : Option Addr} {n c : Nat} (w : World), Sl (encF fE) 2 (Hp.whole w) a n c F → CallsE Try.prog 45 #[gv M a n c] w (RetR w CC y) := fun w h => by
    have := Components_spec M w h
    unfold compR at this
    rw [if_pos (by rw [hF]; exact h0r), Int.toNat_natCast, hF, comp_rev] at this
    rw [hCC, hy]; exact this
  have kP : ∀ {a : Option Addr} {n c : Nat} (w : World), Sl (encF fE) 2 (Hp.whole w) a n c E → CallsE Try.prog 47 #[gv M a n c] w (RetR w PP z) := fun w h => by
    have := Parts_spec M w h (by omega)
    unfold parR at this
    rw [if_pos h0, Int.toNat_natCast] at this
    rw [hPP, hz]; exact this
  have kQ : ∀ {a : Option Addr} {n c : Nat} (w : World), Sl (encF fE) 2 (Hp.whole w) a n c F → CallsE Try.prog 47 #[gv M a n c] w (RetR w PP y) := fun w h => by
    have := Parts_spec M w h (by rw [hF]; omega)
    unfold parR at this
    rw [if_pos (by rw [hF]; exact h0r), Int.toNat_natCast, hF, both_rev] at this
    rw [hPP, hy]; exact this
  have lA : AA.length = M := by rw [hAA]; simp
  have lB : BB.length = M := by rw [hBB]; simp
  have lC : CC.length < 1000000 := by rw [hCC, comp_len]; have := reps_len M E M; omega
  have lP : PP.length < 1000000 := by rw [hPP, comp_len]; have := reps_len M (bothE M E) M; omega
  have lCx : ∀ x ∈ CC, x.length < 1000000000 := fun x hx => by rw [hCC] at hx; have := comp_row hx; omega
  have lPx : ∀ x ∈ PP, x.length < 1000000000 := fun x hx => by rw [hPP] at hx; have := comp_row hx; omega
  have lAx : ∀ (v : Nat) (h : v < AA.length), (AA[v]'h).length < 1000000 := fun v h => by
    have : ∀ x ∈ AA, x.length < 1000000 := fun x hx => by
      rw [hAA] at hx; obtain ⟨v, _, rfl⟩ := List.mem_map.1 hx
      have := reaK_len M E [(v : Int)] M; omega
    exact this _ (List.getElem_mem h)
  have lBx : ∀ (v : Nat) (h : v < BB.length), (BB[v]'h).length < 1000000 := fun v h => by
    have : ∀ x ∈ BB, x.length < 1000000 := fun x hx => by
      rw [hBB] at hx; obtain ⟨v, _, rfl⟩ := List.mem_map.1 hx
      have := reaK_len M F [(v : Int)] M; omega
    exact this _ (List.getElem_mem h)
  have hmir : ∀ (v u : Nat) (hv : v < AA.length) (hu : u < BB.length), decide ((u : Int) ∈ AA[v]'hv) = decide ((v : Int) ∈ BB[u]'hu) := fun v u hv hu => by
    have hv' : v < M := by omega
    have hu' : u < M := by omega
    have := mirror_row (E := E) hv' hu'
    rw [← hF] at this
    simpa [hAA, hBB] using this
  have lF : F.length ≤ 24 := by rw [hF]; omega
  clear hz hy hF hAA hBB hCC hPP h0r hrl
  refine call (fun w' hm => kV w' (hL.mono (encF_mono _) (hm 0 _ rfl))) ?_
  rintro _ _ ⟨oR, rfl, rfl, hoR⟩
  have sR := OwnO.sl (f := fE) (fun _ => rfl) (by decide) hoR
  dsimp only at sR hoR
  intro b3
  refine hideQ (fun _ h => h _ _ ?_)
  refine normS [.hp (Hp.whole w), .box b1 [.int .i64 M, .slice a n c] 26, .hp oR.h, .box b3 [.int .i64 M, .slice oR.a oR.n oR.c] 26] rfl ?_
  refine call (fun w' hm => kA w' (hL.mono (encF_mono _) (hm 0 _ rfl))) ?_
  rintro _ _ ⟨aA, nA, cA, hA, rfl, rfl, sA⟩
  have nA' := sA.len
  refine hideQ (fun _ h => h _ _ ?_)
  refine normS [.hp (Hp.whole w), .box b1 [.int .i64 M, .slice a n c] 26, .hp oR.h, .box b3 [.int .i64 M, .slice oR.a oR.n oR.c] 26, .hp hA] rfl ?_
  refine call (fun w' hm => kB w' (sR.mono (encF_mono _) (hm 2 _ rfl))) ?_
  rintro _ _ ⟨aB, nB, cB, hB, rfl, rfl, sB⟩
  have nB' := sB.len
  refine hideQ (fun _ h => h _ _ ?_)
  refine normS [.hp (Hp.whole w), .box b1 [.int .i64 M, .slice a n c] 26, .hp oR.h, .box b3 [.int .i64 M, .slice oR.a oR.n oR.c] 26, .hp hA, .hp hB] rfl ?_
  refine hideQ (fun q' hq' => ?_)
  refine hideK 3 (fun qq k1 => ?_)
  refine k1 _ _ ?_
  refine hideK 4 (fun qq k1 => ?_)
  refine dfalse (fun h => h qz) ?_
  refine k1 _ _ ?_
  refine hideK 4 (fun qq k1 => ?_)
  refine dfalse (fun h => h qz) ?_
  refine k1 _ _ ?_
  refine hideK 7 (fun qq k1 => ?_)
  refine dfalse (fun h => h qy) ?_
  refine k1 _ _ ?_
  refine hideK 6 (fun qq k1 => ?_)
  refine dfalse (fun h => h (by omega)) ?_
  refine k1 _ _ ?_
  refine hq' _ _ ?_
  refine dfalse (fun h => h (by omega)) ?_
  refine normS [.hp (Hp.whole w), .box b1 [.int .i64 M, .slice a n c] 26, .hp oR.h, .box b3 [.int .i64 M, .slice oR.a oR.n oR.c] 26, .hp hA, .hp hB] rfl ?_
  refine NeedL.mk Nat (fun v => [(1, .bx 1 0), (3, .bx 3 0), (5, .v (.slice aA nA cA)), (7, .v (.slice aB nB cB)), (67, .v (.int .i64 M)), (68, .v (.int .i64 v))]) (fun _ => [.hp (Hp.whole w), .box b1 [.int .i64 M, .slice a n c] 26, .hp oR.h, .box b3 [.int .i64 M, .slice oR.a oR.n oR.c] 26, .hp hA, .hp hB]) (fun v => v ≤ M) (fun v => M - v) 0 (Nat.zero_le _) (Ent.mk (fun _ _ h => h) rfl rfl) ?_
  rintro v hv
  refine bsplitd (fun hlt => ?_) (fun hge => ?_)
  · refine NeedL.mk Nat (fun u => [(1, .bx 1 0), (3, .bx 3 0), (5, .v (.slice aA nA cA)), (7, .v (.slice aB nB cB)), (9, .v (.int .i64 v)), (67, .v (.int .i64 M)), (68, .v (.int .i64 v)), (72, .v (.int .i64 M)), (73, .v (.int .i64 u))]) (fun _ => [.hp (Hp.whole w), .box b1 [.int .i64 M, .slice a n c] 26, .hp oR.h, .box b3 [.int .i64 M, .slice oR.a oR.n oR.c] 26, .hp hA, .hp hB]) (fun u => u ≤ M) (fun u => M - u) 0 (Nat.zero_le _) (Ent.mk (fun _ _ h => h) rfl rfl) ?_
    rintro u hu
    refine bsplitd (fun hltu => ?_) (fun hgeu => ?_)
    · have hvA : v < AA.length := by omega
      have huB : u < BB.length := by omega
      have hp1 := fun (w' : World) {a1 : Option Addr} {n1 c1 : Nat} (hs : Sl (encF fI) 1 (Hp.whole w') a1 n1 c1 (AA[v]'hvA)) => containsInts_spec (u : Int) w' hs (by have := hs.len; have := lAx v hvA; omega)
      have hp2 := fun (w' : World) {a1 : Option Addr} {n1 c1 : Nat} (hs : Sl (encF fI) 1 (Hp.whole w') a1 n1 c1 (BB[u]'huB)) => containsInts_spec (v : Int) w' hs (by have := hs.len; have := lBx u huB; omega)
      refine hidD (fun q' hq' => ?_)
      refine nrmD [.hp (Hp.whole w), .box b1 [.int .i64 M, .slice a n c] 26, .hp oR.h, .box b3 [.int .i64 M, .slice oR.a oR.n oR.c] 26, .hp hA, .hp hB] rfl ?_
      refine NeedD.by_order (cxg _) (.take 0 <| .take 1 <| .take 2 <| .take 3 <| .take 4 <| .take 6 <| .take 7 <| .take 8 <| .take 9 <| .take 10 <| .run 5 <| .run 11 <| .take 12 <| .done) (by kernel_rfl) ?_
      refine idx (cxg _) (e := 42) rfl sA v rfl hvA (fun b o cs hcs hR hcell => ?_)
      obtain ⟨a1, n1, c1, rfl, hs1⟩ := hR
      refine ld1 (cxg _) (i := 4) rfl (hcell 0 _ rfl) rfl ?_
      refine idx (cxg _) (e := 42) rfl sB u rfl huB (fun b o cs hcs hR hcell => ?_)
      obtain ⟨a2, n2, c2, rfl, hs2⟩ := hR
      refine ld1 (cxg _) (i := 5) rfl (hcell 0 _ rfl) rfl ?_
      refine callV _ (fun w' hm => hp1 w' (hs1.mono (encF_mono _) (hm 4 _ rfl))) ?_
      refine ⟨(by repeat first | exact trivial | refine ⟨.inl rfl, ?_⟩ | refine ⟨.inr rfl, ?_⟩), ?_⟩
      refine callV _ (fun w' hm => hp2 w' (hs2.mono (encF_mono _) (hm 5 _ rfl))) ?_
      refine ⟨(by repeat first | exact trivial | refine ⟨.inl rfl, ?_⟩ | refine ⟨.inr rfl, ?_⟩), ?_⟩
      refine qNeB ?_
      refine hq' _ _ ?_
      refine bfalse (by rw [hmir v u hvA huB]; simp) ?_
      refine nw (by omega) (by omega) ?_
      exact ⟨u + 1, by omega, by omega, Ent.mk (fun _ _ h => h) rfl rfl⟩
    · refine nw (by omega) (by omega) ?_
      exact ⟨v + 1, by omega, by omega, Ent.mk (fun _ _ h => h) rfl rfl⟩
  · refine normS [.hp (Hp.whole w), .box b1 [.int .i64 M, .slice a n c] 26, .hp oR.h, .box b3 [.int .i64 M, .slice oR.a oR.n oR.c] 26, .hp hA, .hp hB] rfl ?_
    refine call (fun w' hm => kC w' (hL.mono (encF_mono _) (hm 0 _ rfl))) ?_
    rintro _ _ ⟨aC, nC, cC, hC, rfl, rfl, sC⟩
    have nC' := sC.len
    refine hideQ (fun _ h => h _ _ ?_)
    refine normS [.hp (Hp.whole w), .box b1 [.int .i64 M, .slice a n c] 26, .hp oR.h, .box b3 [.int .i64 M, .slice oR.a oR.n oR.c] 26, .hp hA, .hp hB, .hp hC] rfl ?_
    refine call (fun w' hm => kD w' (sR.mono (encF_mono _) (hm 2 _ rfl))) ?_
    rintro _ _ ⟨aD, nD, cD, hD, rfl, rfl, sD⟩
    refine hideQ (fun _ h => h _ _ ?_)
    refine normS [.hp (Hp.whole w), .box b1 [.int .i64 M, .slice a n c] 26, .hp oR.h, .box b3 [.int .i64 M, .slice oR.a oR.n oR.c] 26, .hp hA, .hp hB, .hp hC, .hp hD] rfl ?_
    refine call (fun w' hm => kP w' (hL.mono (encF_mono _) (hm 0 _ rfl))) ?_
    rintro _ _ ⟨aP, nP, cP, hP, rfl, rfl, sP⟩
    have nP' := sP.len
    refine hideQ (fun _ h => h _ _ ?_)
    refine normS [.hp (Hp.whole w), .box b1 [.int .i64 M, .slice a n c] 26, .hp oR.h, .box b3 [.int .i64 M, .slice oR.a oR.n oR.c] 26, .hp hA, .hp hB, .hp hC, .hp hD, .hp hP] rfl ?_
    refine call (fun w' hm => kQ w' (sR.mono (encF_mono _) (hm 2 _ rfl))) ?_
    rintro _ _ ⟨aQ, nQ, cQ, hQ, rfl, rfl, sQ⟩
    refine hideQ (fun _ h => h _ _ ?_)
    refine normS [.hp (Hp.whole w), .box b1 [.int .i64 M, .slice a n c] 26, .hp oR.h, .box b3 [.int .i64 M, .slice oR.a oR.n oR.c] 26, .hp hA, .hp hB, .hp hC, .hp hD, .hp hP, .hp hQ] rfl ?_
    refine hideQ (fun q' hq' => ?_)
    refine hideK 3 (fun qq k1 => ?_)
    refine k1 _ _ ?_
    refine hideK 4 (fun qq k1 => ?_)
    refine dtrue qz ?_
    refine k1 _ _ ?_
    refine hideK 4 (fun qq k1 => ?_)
    refine dtrue qy ?_
    refine k1 _ _ ?_
    refine hideK 4 (fun qq k1 => ?_)
    refine dtrue qz ?_
    refine k1 _ _ ?_
    refine hideK 5 (fun qq k1 => ?_)
    refine dtrue qy ?_
    refine callV _ (fun w' hm => lists_spec w' (sC.mono (encS_mono (encF_mono _) _) (hm 6 _ rfl)) (sD.mono (encS_mono (encF_mono _) _) (hm 7 _ rfl)) (by omega) lCx) ?_
    refine k1 _ _ ?_
    refine hideK 5 (fun qq k1 => ?_)
    refine dtrue rfl ?_
    refine callV _ (fun w' hm => lists_spec w' (sP.mono (encS_mono (encF_mono _) _) (hm 8 _ rfl)) (sQ.mono (encS_mono (encF_mono _) _) (hm 9 _ rfl)) (by omega) lPx) ?_
    refine k1 _ _ ?_
    refine hq' _ _ ?_
    exact ⟨[], ⟨by rw [decide_eq_true rfl], rfl⟩, fun w' h => h.pick [0] rfl rfl⟩
end Go.Proofs.Ytdjhgcpmipglfaa
