/- The law GraphComponents returns true. Its premises are its arguments' form. -/
import Derived.Test.YtdjhgcpmipglfaaYMa
import Derived.Test.YtdjhgcpmipglfaaYLf
namespace Go.Proofs.Ytdjhgcpmipglfaa
open Go Go.RowKit Go.Dw
set_option maxRecDepth 10000 in
theorem components_ok {a : Option Addr} {n c : Nat} {E : List (Int × Int)} (N : Int) (w : World) (hL : Sl (encF fE) 2 (Hp.whole w) a n c E) :
    CallsE Try.prog 7 #[gv N a n c] w (RetV w (.bool true)) := by
  have hlen := hL.len
  refine enter (X := cx 97) (cxg _) (args := [.agg #[.int .i64 N, .slice a n c]]) [.tmp 2] Try.func7 rfl rfl rfl rfl rfl ?_
  intro b1
  refine callV _ (fun w' _ => known_spec w') ?_
  refine callV _ (fun w' hm => fine_spec N w' (hL.mono (encF_mono _) (hm 0 _ rfl))) ?_
  refine bsplit (fun h1 => ?_) (fun h1 => ?_)
  · refine callV _ (fun w' _ => known_spec w') ?_
    exact ⟨[], ⟨rfl, rfl⟩, fun w' h => h.pick [0] rfl rfl⟩
  rw [Bool.not_eq_false'] at h1
  obtain ⟨M, rfl, hM8, hEl, hG, hs, h0⟩ := fineF_ok h1
  obtain ⟨z, hz⟩ : ∃ z : Int, z = checkF M E := ⟨_, rfl⟩
  have qz : z = 0 := by rw [hz, h0]
  obtain ⟨CC, hCC⟩ : ∃ R, R = compF M E := ⟨_, rfl⟩
  obtain ⟨SS, hSS⟩ : ∃ R, R = sinkF M E := ⟨_, rfl⟩
  obtain ⟨PP, hPP⟩ : ∃ R, R = compF M (bothE M E) := ⟨_, rfl⟩
  obtain ⟨K, hK⟩ : ∃ R, R = (condR M E).1 := ⟨_, rfl⟩
  obtain ⟨KE, hKE⟩ : ∃ R, R = (condR M E).2.1 := ⟨_, rfl⟩
  obtain ⟨FF, hFF⟩ : ∃ R, R = ofF M E := ⟨_, rfl⟩
  have kA : ∀ {a : Option Addr} {n c : Nat} (w : World), Sl (encF fE) 2 (Hp.whole w) a n c E → CallsE Try.prog 45 #[gv M a n c] w (RetR w CC z) := fun w h => by
    have := Components_spec M w h
    unfold compR at this
    rw [if_pos h0, Int.toNat_natCast] at this
    rw [hCC, hz]; exact this
  have kB : ∀ {a : Option Addr} {n c : Nat} (w : World), Sl (encF fE) 2 (Hp.whole w) a n c E → CallsE Try.prog 46 #[gv M a n c] w (Ret w fun v cs => ∃ o o2 : Dw.Os, v = .tuple #[gv K o.a o.n o.c, o2.v, .int .i64 z] ∧ cs = [.hp o.h, .hp o2.h] ∧ OwnO fE 32 2 o KE ∧ OwnO fI 3 1 o2 FF) := fun w h => by
    have := Condense_spec M w h
    unfold conR at this
    rw [if_pos h0, Int.toNat_natCast] at this
    rw [hK, hKE, hFF, hz]; exact this
  have kC : ∀ {a : Option Addr} {n c : Nat} (w : World), Sl (encF fE) 2 (Hp.whole w) a n c E → CallsE Try.prog 39 #[gv M a n c] w (RetR w SS z) := fun w h => by
    have := Sinks_spec M w h
    unfold sinkR at this
    rw [if_pos h0, Int.toNat_natCast] at this
    rw [hSS, hz]; exact this
  have kD : ∀ {a : Option Addr} {n c : Nat} (w : World), Sl (encF fE) 2 (Hp.whole w) a n c E → CallsE Try.prog 47 #[gv M a n c] w (RetR w PP z) := fun w h => by
    have := Parts_spec M w h (by omega)
    unfold parR at this
    rw [if_pos h0, Int.toNat_natCast] at this
    rw [hPP, hz]; exact this
  have rY : ∀ {a : Option Addr} {n c : Nat} (w : World), Sl (encF fE) 2 (Hp.whole w) a n c E → CallsE Try.prog 48 #[gv M a n c] w (Ret w fun v cs => ∃ o o2 : Dw.Os, v = .tuple #[gv K o.a o.n o.c, o2.v] ∧ cs = [.hp o.h, .hp o2.h] ∧ OwnO fE 85 2 o KE ∧ OwnO fI 3 1 o2 FF) := fun w h => by
    rw [hK, hKE, hFF]; exact RCondense_spec M w h hG
  have rA : ∀ {a : Option Addr} {n c : Nat} (w : World), Sl (encF fE) 2 (Hp.whole w) a n c E → CallsE Try.prog 50 #[gv M a n c] w (Ret w fun v cs => ∃ a' n' c' h, v = .slice a' n' c' ∧ cs = [.hp h] ∧ Sl (encS (encF fI) 1) 1 h a' n' c' CC) := fun w h => by
    rw [hCC]; exact RComponents_spec M w h hG
  have rS : ∀ {a : Option Addr} {n c : Nat} (w : World), Sl (encF fE) 2 (Hp.whole w) a n c E → CallsE Try.prog 51 #[gv M a n c] w (Ret w fun v cs => ∃ a' n' c' h, v = .slice a' n' c' ∧ cs = [.hp h] ∧ Sl (encS (encF fI) 1) 1 h a' n' c' SS) := fun w h => by
    rw [hSS]; exact RSinks_spec M w h hG
  have rP : ∀ {a : Option Addr} {n c : Nat} (w : World), Sl (encF fE) 2 (Hp.whole w) a n c E → CallsE Try.prog 52 #[gv M a n c] w (Ret w fun v cs => ∃ a' n' c' h, v = .slice a' n' c' ∧ cs = [.hp h] ∧ Sl (encS (encF fI) 1) 1 h a' n' c' PP) := fun w h => by
    rw [hPP]; exact RParts_spec M w h hG hs (by omega)
  have lC : CC.length < 1000000 := by rw [hCC, comp_len]; have := reps_len M E M; omega
  have lP : PP.length < 1000000 := by rw [hPP, comp_len]; have := reps_len M (bothE M E) M; omega
  have lS : SS.length < 1000000 := by rw [hSS]; have := sinkK_len M E (compF M E).length; have := comp_len M E; have := reps_len M E M; unfold sinkF; omega
  have lCx : ∀ x ∈ CC, x.length < 1000000000 := fun x hx => by rw [hCC] at hx; have := comp_row hx; omega
  have lPx : ∀ x ∈ PP, x.length < 1000000000 := fun x hx => by rw [hPP] at hx; have := comp_row hx; omega
  have lSx : ∀ x ∈ SS, x.length < 1000000000 := fun x hx => by rw [hSS] at hx; have := sinkF_row hx; omega
  have lF : FF.length = M := by rw [hFF]; simp [ofF]
  have lK : KE.length < 1000000 := by
    rw [hKE]
    have h1 := makeR_len (compF M E).length (condE M E E)
    have h2 := condE_len M E E
    unfold condR; omega
  clear hz hCC hSS hPP hK hKE hFF
  refine call (fun w' hm => plain_spec M w' (hL.mono (encF_mono _) (hm 0 _ rfl)) (by omega)) ?_
  rintro _ _ ⟨oX, rfl, rfl, hoX⟩
  have sX := OwnO.sl (f := fE) (fun _ => rfl) (by decide) hoX
  intro b3
  refine hideQ (fun _ h => h _ _ ?_)
  refine normS [.hp (Hp.whole w), .box b1 [.int .i64 M, .slice a n c] 26, .hp oX.h, .box b3 [.int .i64 M, .slice oX.a oX.n oX.c] 35] rfl ?_
  refine call (fun w' hm => copied_spec M w' (hL.mono (encF_mono _) (hm 0 _ rfl)) (by omega)) ?_
  rintro _ _ ⟨o1, rfl, rfl, ho1⟩
  have s1 := OwnO.sl (f := fE) (fun _ => rfl) (by decide) ho1
  refine call (fun w' hm => kA w' (s1.mono (encF_mono _) (hm 4 _ rfl))) ?_
  rintro _ _ ⟨aA, nA, cA, hA, rfl, rfl, sA⟩
  have nA' := sA.len
  refine hideQ (fun _ h => h _ _ ?_)
  refine normS [.hp (Hp.whole w), .box b1 [.int .i64 M, .slice a n c] 26, .hp oX.h, .box b3 [.int .i64 M, .slice oX.a oX.n oX.c] 35, .hp o1.h, .hp hA] rfl ?_
  refine call (fun w' hm => copied_spec M w' (hL.mono (encF_mono _) (hm 0 _ rfl)) (by omega)) ?_
  rintro _ _ ⟨o2, rfl, rfl, ho2⟩
  have s2 := OwnO.sl (f := fE) (fun _ => rfl) (by decide) ho2
  refine call (fun w' hm => kB w' (s2.mono (encF_mono _) (hm 6 _ rfl))) ?_
  rintro _ _ ⟨oK, oF, rfl, rfl, hoK, hoF⟩
  have sK := OwnO.sl (f := fE) (fun _ => rfl) (by decide) hoK
  have sF := OwnO.sl (f := fI) (fun _ => rfl) (by decide) hoF
  have nK' := sK.len
  have nF' := sF.len
  intro b6
  refine hideQ (fun _ h => h _ _ ?_)
  refine normS [.hp (Hp.whole w), .box b1 [.int .i64 M, .slice a n c] 26, .hp oX.h, .box b3 [.int .i64 M, .slice oX.a oX.n oX.c] 35, .hp o1.h, .hp hA, .hp o2.h, .hp oK.h, .hp oF.h, .box b6 [.int .i64 K, .slice oK.a oK.n oK.c] 26] rfl ?_
  refine call (fun w' hm => copied_spec M w' (hL.mono (encF_mono _) (hm 0 _ rfl)) (by omega)) ?_
  rintro _ _ ⟨o3, rfl, rfl, ho3⟩
  have s3 := OwnO.sl (f := fE) (fun _ => rfl) (by decide) ho3
  refine call (fun w' hm => kC w' (s3.mono (encF_mono _) (hm 10 _ rfl))) ?_
  rintro _ _ ⟨aC, nC, cC, hC, rfl, rfl, sC⟩
  have nC' := sC.len
  refine hideQ (fun _ h => h _ _ ?_)
  refine normS [.hp (Hp.whole w), .box b1 [.int .i64 M, .slice a n c] 26, .hp oX.h, .box b3 [.int .i64 M, .slice oX.a oX.n oX.c] 35, .hp o1.h, .hp hA, .hp o2.h, .hp oK.h, .hp oF.h, .box b6 [.int .i64 K, .slice oK.a oK.n oK.c] 26, .hp o3.h, .hp hC] rfl ?_
  refine call (fun w' hm => copied_spec M w' (hL.mono (encF_mono _) (hm 0 _ rfl)) (by omega)) ?_
  rintro _ _ ⟨o4, rfl, rfl, ho4⟩
  have s4 := OwnO.sl (f := fE) (fun _ => rfl) (by decide) ho4
  refine call (fun w' hm => kD w' (s4.mono (encF_mono _) (hm 12 _ rfl))) ?_
  rintro _ _ ⟨aD, nD, cD, hD, rfl, rfl, sD⟩
  have nD' := sD.len
  refine hideQ (fun _ h => h _ _ ?_)
  refine normS [.hp (Hp.whole w), .box b1 [.int .i64 M, .slice a n c] 26, .hp oX.h, .box b3 [.int .i64 M, .slice oX.a oX.n oX.c] 35, .hp o1.h, .hp hA, .hp o2.h, .hp oK.h, .hp oF.h, .box b6 [.int .i64 K, .slice oK.a oK.n oK.c] 26, .hp o3.h, .hp hC, .hp o4.h, .hp hD] rfl ?_
  refine call (fun w' hm => rY w' (sX.mono (encF_mono _) (hm 2 _ rfl))) ?_
  rintro _ _ ⟨oY, oW, rfl, rfl, hoY, hoW⟩
  have sY := OwnO.sl (f := fE) (fun _ => rfl) (by decide) hoY
  have sW := OwnO.sl (f := fI) (fun _ => rfl) (by decide) hoW
  intro b13
  refine hideQ (fun _ h => h _ _ ?_)
  refine normS [.hp (Hp.whole w), .box b1 [.int .i64 M, .slice a n c] 26, .hp oX.h, .box b3 [.int .i64 M, .slice oX.a oX.n oX.c] 35, .hp o1.h, .hp hA, .hp o2.h, .hp oK.h, .hp oF.h, .box b6 [.int .i64 K, .slice oK.a oK.n oK.c] 26, .hp o3.h, .hp hC, .hp o4.h, .hp hD, .hp oY.h, .hp oW.h, .box b13 [.int .i64 K, .slice oY.a oY.n oY.c] 35] rfl ?_
  refine hideQ (fun q' hq' => ?_)
  refine hideK 3 (fun qq k1 => ?_)
  refine k1 _ _ ?_
  refine hideK 4 (fun qq k1 => ?_)
  refine dtrue qz ?_
  refine k1 _ _ ?_
  refine hideK 4 (fun qq k1 => ?_)
  refine dtrue qz ?_
  refine k1 _ _ ?_
  refine hideK 4 (fun qq k1 => ?_)
  refine dtrue qz ?_
  refine k1 _ _ ?_
  refine hideK 6 (fun qq k1 => ?_)
  refine dtrue qz ?_
  refine call (fun w' hm => rA w' (sX.mono (encF_mono _) (hm 2 _ rfl))) ?_
  rintro _ _ ⟨aE, nE, cE, hE, rfl, rfl, sE⟩
  refine callV _ (fun w' hm => lists_spec w' (sA.mono (encS_mono (encF_mono _) _) (hm 5 _ rfl)) (sE.mono (encS_mono (encF_mono _) _) (hm 17 _ rfl)) (by omega) lCx) ?_
  refine k1 _ _ ?_
  refine hideK 5 (fun qq k1 => ?_)
  refine dtrue rfl ?_
  refine callV _ (fun w' hm => same_spec K K w' (sK.mono (encF_mono _) (hm 7 _ rfl)) (sY.mono (encF_mono _) (hm 14 _ rfl)) (by omega)) ?_
  refine k1 _ _ ?_
  refine hideK 5 (fun qq k1 => ?_)
  refine btrue (by simp) ?_
  refine callV _ (fun w' hm => equalInts_spec w' (sF.mono (encF_mono _) (hm 8 _ rfl)) (sW.mono (encF_mono _) (hm 15 _ rfl)) (by omega)) ?_
  refine k1 _ _ ?_
  refine hideK 6 (fun qq k1 => ?_)
  refine dtrue rfl ?_
  refine call (fun w' hm => rS w' (sX.mono (encF_mono _) (hm 2 _ rfl))) ?_
  rintro _ _ ⟨aG, nG, cG, hG', rfl, rfl, sG⟩
  refine callV _ (fun w' hm => lists_spec w' (sC.mono (encS_mono (encF_mono _) _) (hm 11 _ rfl)) (sG.mono (encS_mono (encF_mono _) _) (hm 18 _ rfl)) (by omega) lSx) ?_
  refine k1 _ _ ?_
  refine hideK 6 (fun qq k1 => ?_)
  refine dtrue rfl ?_
  refine call (fun w' hm => rP w' (sX.mono (encF_mono _) (hm 2 _ rfl))) ?_
  rintro _ _ ⟨aH, nH, cH, hH, rfl, rfl, sH⟩
  refine callV _ (fun w' hm => lists_spec w' (sD.mono (encS_mono (encF_mono _) _) (hm 13 _ rfl)) (sH.mono (encS_mono (encF_mono _) _) (hm 19 _ rfl)) (by omega) lPx) ?_
  refine k1 _ _ ?_
  refine hq' _ _ ?_
  exact ⟨[], ⟨by rw [decide_eq_true rfl], rfl⟩, fun w' h => h.pick [0] rfl rfl⟩
end Go.Proofs.Ytdjhgcpmipglfaa
