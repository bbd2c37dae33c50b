/- The law GraphReverses returns true. Its premises are its arguments' form. -/
import Derived.Test.YtdjhgcpmipglfaaYM3
import Derived.Test.YtdjhgcpmipglfaaYLc
namespace Go.Dw
open Go Go.RowKit
theorem normD {X : Ctx} {ops : List Oper} {Q : Tm → List Ch → Prop} {t : Tm} {s : List Ch} (s' : List Ch) (hs : s = s') (h : NeedD X ops Q t s') : NeedD X ops Q t s := by subst hs; exact h
end Go.Dw
namespace Go.Proofs.Ytdjhgcpmipglfaa
open Go Go.RowKit Go.Dw
set_option maxRecDepth 10000 in
theorem reverses_ok {a : Option Addr} {n c : Nat} {E : List (Int × Int)} (N : Int) (w : World) (hL : Sl (encF fE) 2 (Hp.whole w) a n c E) (u : Int) (_hu : 0 ≤ u ∧ u ≤ 255) :
    CallsE Try.prog 8 #[gv N a n c, .int .u8 u] w (RetV w (.bool true)) := by
  have hlen := hL.len
  refine enter (X := cx 56) (cxg _) (args := [.agg #[.int .i64 N, .slice a n c], .int .u8 u]) [.tmp 4] Try.func8 rfl rfl rfl rfl rfl ?_
  intro b2
  refine callV _ (fun w' _ => known_spec w') ?_
  refine callV _ (fun w' hm => fine_spec N w' (hL.mono (encF_mono _) (hm 0 _ rfl))) ?_
  refine bsplit (fun h1 => ?_) (fun h1 => ?_)
  · refine callV _ (fun w' _ => known_spec w') ?_
    exact ⟨[], ⟨rfl, rfl⟩, fun w' h => h.pick [0] rfl rfl⟩
  rw [Bool.not_eq_false'] at h1
  obtain ⟨M, rfl, hM8, hEl, hG, hs, h0⟩ := fineF_ok h1
  obtain ⟨z1, hz1⟩ : ∃ z : Int, z = checkF M E := ⟨_, rfl⟩
  obtain ⟨z2, hz2⟩ : ∃ z : Int, z = readyF M E (chsK u M) := ⟨_, rfl⟩
  obtain ⟨L, hLd⟩ : ∃ L, L = chsK u M := ⟨_, rfl⟩
  obtain ⟨A, hAd⟩ : ∃ A, A = revF E := ⟨_, rfl⟩
  obtain ⟨B, hBd⟩ : ∃ B, B = indF E (chsK u M) := ⟨_, rfl⟩
  have q1 : z1 = 0 := by rw [hz1, h0]
  have q2 : z2 = 0 := by rw [hz2, ready_chs h0]
  have lL : L.length ≤ 8 := by rw [hLd]; have := chsK_len u M; omega
  have lA : A.length ≤ 24 := by rw [hAd]; unfold revF; rw [sortF_len, List.length_map]; exact hEl
  have lB : B.length ≤ 24 := by rw [hBd]; have := indF_len E (chsK u M); omega
  have pL : L.Pairwise (· < ·) := by rw [hLd]; exact cast_asc M _
  have kL : ∀ w : World, CallsE Try.prog 36 #[gv M a n c, .int .u8 u] w (Ret w fun v cs => ∃ o : Dw.Os, v = o.v ∧ cs = [.hp o.h] ∧ OwnO fI 3 1 o L) := fun w => by rw [hLd]; exact chosen_spec M hM8 u w
  have kV : ∀ {a : Option Addr} {n c : Nat} (w : World), Sl (encF fE) 2 (Hp.whole w) a n c E → CallsE Try.prog 53 #[gv M a n c] w (RetG w ((M : Int), A, z1)) := fun w h => by
    have := Reverse_spec M w h
    unfold revR at this
    rw [if_pos h0] at this
    rw [hAd, q1]; exact this
  have kI : ∀ {a a1 : Option Addr} {n c n1 c1 : Nat} (w : World), Sl (encF fE) 2 (Hp.whole w) a n c E → Sl (encF fI) 1 (Hp.whole w) a1 n1 c1 L → CallsE Try.prog 54 #[gv M a n c, .slice a1 n1 c1] w (RetG w ((L.length : Int), B, z2)) := fun w h h' => by
    have := Induced_spec M w h h' (by omega)
    rw [hLd] at this
    unfold indR at this
    rw [if_pos (by rw [ready_chs h0])] at this
    rw [hBd, q2, hLd]; exact this
  have kRV : ∀ {a : Option Addr} {n c : Nat} (w : World), Sl (encF fE) 2 (Hp.whole w) a n c E → CallsE Try.prog 56 #[gv M a n c] w (Ret w fun v cs => ∃ o : Dw.Os, v = gv M o.a o.n o.c ∧ cs = [.hp o.h] ∧ OwnO fE 85 2 o A) := fun w h => by
    have := RReverse_spec M w h (by omega)
    rw [rev_eq hG hs] at this
    rw [hAd]; exact this
  have kRI : ∀ {a a1 : Option Addr} {n c n1 c1 : Nat} (w : World), n < 1000000 → Sl (encF fE) 2 (Hp.whole w) a n c E → Sl (encF fI) 1 (Hp.whole w) a1 n1 c1 L → CallsE Try.prog 57 #[gv M a n c, .slice a1 n1 c1] w (Ret w fun v cs => ∃ o : Dw.Os, v = gv L.length o.a o.n o.c ∧ cs = [.hp o.h] ∧ OwnO fE 85 2 o B) := fun w hn h h' => by
    have := RInduced_spec M w h h' hn (by omega)
    rw [hBd, ind_eq hs (by rw [← hLd]; exact pL), ← hLd]; exact this
  clear hz1 hz2 hLd hAd hBd
  refine call (fun w' _ => kL w') ?_
  rintro _ _ ⟨oL, rfl, rfl, hoL⟩
  have sL := OwnO.sl (f := fI) (fun _ => rfl) (by decide) hoL
  have nL := hoL.len
  refine hideQ (fun _ h => h _ _ ?_)
  refine normS [.hp (Hp.whole w), .box b2 [.int .i64 M, .slice a n c] 26, .hp oL.h] rfl ?_
  refine call (fun w' hm => copied_spec M w' (hL.mono (encF_mono _) (hm 0 _ rfl)) (by omega)) ?_
  rintro _ _ ⟨oC, rfl, rfl, hoC⟩
  have sC := OwnO.sl (f := fE) (fun _ => rfl) (by decide) hoC
  refine call (fun w' hm => kV w' (sC.mono (encF_mono _) (hm 3 _ rfl))) ?_
  rintro _ _ ⟨oA, rfl, rfl, hoA⟩
  have sA := OwnO.sl (f := fE) (fun _ => rfl) (by decide) hoA
  have nA := hoA.len
  dsimp only at nA hoA sA
  intro b6
  refine hideQ (fun _ h => h _ _ ?_)
  refine normS [.hp (Hp.whole w), .box b2 [.int .i64 M, .slice a n c] 26, .hp oL.h, .hp oC.h, .hp oA.h, .box b6 [.int .i64 M, oA.v] 26] rfl ?_
  refine call (fun w' hm => copied_spec M w' (hL.mono (encF_mono _) (hm 0 _ rfl)) (by omega)) ?_
  rintro _ _ ⟨oD, rfl, rfl, hoD⟩
  have sD := OwnO.sl (f := fE) (fun _ => rfl) (by decide) hoD
  refine call (fun w' hm => cloneInts_spec w' (sL.mono (encF_mono _) (hm 2 _ rfl)) (by omega)) ?_
  rintro _ _ ⟨oK, rfl, rfl, hoK⟩
  have sK := OwnO.sl (f := fI) (fun _ => rfl) (by decide) hoK
  refine call (fun w' hm => kI w' (sD.mono (encF_mono _) (hm 6 _ rfl)) (sK.mono (encF_mono _) (hm 7 _ rfl))) ?_
  rintro _ _ ⟨oB, rfl, rfl, hoB⟩
  have sB := OwnO.sl (f := fE) (fun _ => rfl) (by decide) hoB
  have nB := hoB.len
  dsimp only at nB hoB sB
  intro b8
  refine hideQ (fun _ h => h _ _ ?_)
  have hm1 : (decide ((M : Int) = M) && decide (A = A)) = true := by simp
  have hm2 : (decide ((L.length : Int) = L.length) && decide (B = B)) = true := by simp
  refine normD [.hp (Hp.whole w), .box b2 [.int .i64 M, .slice a n c] 26, .hp oL.h, .hp oC.h, .hp oA.h, .box b6 [.int .i64 M, oA.v] 26, .hp oD.h, .hp oK.h, .hp oB.h, .box b8 [.int .i64 L.length, oB.v] 26] rfl ?_
  refine NeedD.cut Unit (fun _ => [(4, .v (.bool true))]) (fun _ => [.hp (Hp.whole w)]) (fun _ => True) (NeedD.by_order (cxg _) (.take 0 <| .take 1 <| .take 2 <| .take 3 <| .take 4 <| .take 5 <| .take 6 <| .take 7 <| .take 8 <| .run 9 <| .run 10 <| .run 11 <| .take 12 <| .take 13 <| .take 14 <| .take 15 <| .take 17 <| .run 16 <| .run 18 <| .run 19 <| .take 20 <| .take 21 <| .done) (by kernel_rfl) ?_) ?_
  · refine dtrue q1 ?_
    refine dtrue q2 ?_
    refine call (fun w' hm => plain_spec M w' (hL.mono (encF_mono _) (hm 0 _ rfl)) (by omega)) ?_
    rintro _ _ ⟨oQ, rfl, rfl, hoQ⟩
    have sQ := OwnO.sl (f := fE) (fun _ => rfl) (by decide) hoQ
    refine ⟨(by repeat first | exact trivial | refine ⟨.inl rfl, ?_⟩ | refine ⟨.inr rfl, ?_⟩), ?_⟩
    refine call (fun w' hm => kRV w' (sQ.mono (encF_mono _) (hm 10 _ rfl))) ?_
    rintro _ _ ⟨oR, rfl, rfl, hoR⟩
    have sR := OwnO.sl (f := fE) (fun _ => rfl) (by decide) hoR
    refine ⟨(by repeat first | exact trivial | refine ⟨.inl rfl, ?_⟩ | refine ⟨.inr rfl, ?_⟩), ?_⟩
    refine callV _ (fun w' hm => same_spec M M w' (sA.mono (encF_mono _) (hm 4 _ rfl)) (sR.mono (encF_mono _) (hm 11 _ rfl)) (by omega)) ?_
    refine ⟨(by repeat first | exact trivial | refine ⟨.inl rfl, ?_⟩ | refine ⟨.inr rfl, ?_⟩), ?_⟩
    refine btrue hm1 ?_
    refine call (fun w' hm => plain_spec M w' (hL.mono (encF_mono _) (hm 0 _ rfl)) (by omega)) ?_
    rintro _ _ ⟨oQ2, rfl, rfl, hoQ2⟩
    have sQ2 := OwnO.sl (f := fE) (fun _ => rfl) (by decide) hoQ2
    have nQ2 := hoQ2.len
    refine ⟨(by repeat first | exact trivial | refine ⟨.inl rfl, ?_⟩ | refine ⟨.inr rfl, ?_⟩), ?_⟩
    refine call (fun w' hm => kRI w' (by omega) (sQ2.mono (encF_mono _) (hm 12 _ rfl)) (sL.mono (encF_mono _) (hm 2 _ rfl))) ?_
    rintro _ _ ⟨oI, rfl, rfl, hoI⟩
    have sI := OwnO.sl (f := fE) (fun _ => rfl) (by decide) hoI
    refine ⟨(by repeat first | exact trivial | refine ⟨.inl rfl, ?_⟩ | refine ⟨.inr rfl, ?_⟩), ?_⟩
    refine callV _ (fun w' hm => same_spec L.length L.length w' (sB.mono (encF_mono _) (hm 8 _ rfl)) (sI.mono (encF_mono _) (hm 13 _ rfl)) (by omega)) ?_
    refine ⟨(by repeat first | exact trivial | refine ⟨.inl rfl, ?_⟩ | refine ⟨.inr rfl, ?_⟩), ?_⟩
    exact ⟨(), trivial, Ent.mk (fun _ _ h => h.pick [0] rfl rfl) (by rw [hm2]; rfl) rfl⟩
  · rintro ⟨⟩ - -
    exact ⟨[], ⟨rfl, rfl⟩, fun w' h => h⟩
end Go.Proofs.Ytdjhgcpmipglfaa
