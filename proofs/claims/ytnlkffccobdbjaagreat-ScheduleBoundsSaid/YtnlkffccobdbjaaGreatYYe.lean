/- The law ScheduleBounds returns true. Its premises are its own. -/
import Derived.Test.YtnlkffccobdbjaaGreatYXk
import Derived.Test.YtnlkffccobdbjaaGreatYXv
namespace Go.Proofs.YtnlkffccobdbjaaGreat
open Go Go.RowKit Go.Dw
section
variable {a a' : Option Addr} {n c n' c' : Nat} {TT : List Tk} {SS : List Sn}
set_option maxHeartbeats 1000000 in
set_option maxRecDepth 10000 in
theorem bounds50_ok  (w : World) (hT : Sl encT 4 (Hp.whole w) a n c TT) (hS : Sl encN 2 (Hp.whole w) a' n' c' SS) :
    CallsE Tryz.prog 3 #[sv a n c a' n' c'] w (RetV w (.bool true)) := by
  have lT := hT.len
  obtain ⟨fi, hfi⟩ : ∃ fi, fi = fineF50 TT SS 6 := ⟨_, rfl⟩
  have kF : ∀ w' : World, Sl encT 4 (Hp.whole w') a n c TT → Sl encN 2 (Hp.whole w') a' n' c' SS → CallsE Tryz.prog 14 #[sv a n c a' n' c', .int .i64 6] w' (RetV w' (.bool fi)) := fun w' h1 h2 => by
    rw [hfi]; exact fine50_spec 6 w' h1 h2
  refine enter (X := cx 50) (cxg _) (args := [.agg #[.slice a n c, .slice a' n' c']]) [.tmp 2] Tryz.func3 rfl rfl rfl rfl rfl ?_
  intro b2
  refine hideQ (fun _ kz => kz _ _ ?_)
  refine hideQ (fun q0 k0 => ?_)
  refine hideK 3 (fun q1 k1 => ?_)
  refine callV _ (fun w' _ => known50_spec w') ?_
  refine k1 _ _ ?_
  refine hideK 4 (fun q2 k2 => ?_)
  refine callV _ (fun w' hm => kF w' (hT.mono encT_mono (hm 0 _ rfl)) (hS.mono encN_mono (hm 0 _ rfl))) ?_
  refine k2 _ _ ?_
  cases fi with
  | false =>
    refine k0 _ _ ?_
    refine condT rfl ?_
    refine callV _ (fun w' _ => known50_spec w') ?_
    exact ⟨[], ⟨rfl, rfl⟩, fun w' h => h.pick [0] rfl rfl⟩
  | true =>
    obtain ⟨hN, hM, hfw, hE⟩ := fine50_of hfi.symm
    have hs := (few49_sml hfw).1
    have hF := fit_of hs hE
    refine k0 _ _ ?_
    refine condF rfl ?_
    have hlm := low_max hF hE (by omega) (by omega)
    have hbd := low_bd hF hE
    have hv := fun b => low_vf (b := b) hF hE
    obtain ⟨g1, g2, g3⟩ := low_len hF hE
    obtain ⟨X, hX⟩ : ∃ X, X = lowF TT SS := ⟨_, rfl⟩
    rw [← hX] at hlm hbd hv g1 g2 g3
    obtain ⟨m, C, T, S⟩ := X
    dsimp only at hlm hbd hv g1 g2 g3
    have hm0 := hlm.z
    have kL : ∀ w' : World, Sl encT 4 (Hp.whole w') a n c TT → Sl encN 2 (Hp.whole w') a' n' c' SS → CallsE Tryz.prog 15 #[sv a n c a' n' c'] w' (RetL w' (m, C, T, S) 0) := fun w' h1 h2 => by
      have := Lower_spec w' h1 h2 hs (by omega)
      unfold lowR at this
      rwa [hE, if_pos rfl, ← hX] at this
    refine call (fun w' hm => kL w' (hT.mono encT_mono (hm 0 _ rfl)) (hS.mono encN_mono (hm 0 _ rfl))) ?_
    rintro _ _ ⟨p, q, r, hG, rfl, rfl, ⟨rp, rq, rr⟩, hL⟩
    simp only [Prod.mk.injEq] at hL
    obtain ⟨rfl, rfl, rfl⟩ := hL
    clear kL hX
    intro b4
    refine hideQ (fun _ kz => kz _ _ ?_)
    refine normS [.hp (Hp.whole w), .box b2 [.slice a n c, .slice a' n' c'] 25, .hp hG, .box b4 [p.v, q.v, r.v] 30] rfl ?_
    refine hideK 8 (fun _ k1 => ?_)
    refine call (fun w' hm => lower50_spec w' (hT.mono encT_mono (hm 0 _ rfl)) (hS.mono encN_mono (hm 0 _ rfl)) hs hE (by omega)) ?_
    rintro _ _ ⟨m2, rfl, rfl, hm2⟩
    obtain rfl : m = m2 := LwP.uniq hlm hm2
    refine k1 _ _ ?_
    rw [decide_eq_true (rfl : m = m)]
    refine hideK 7 (fun _ k2 => ?_)
    have rp' : Sl (encF fI) 1 hG p.a p.n p.c p.L := rp
    have rq' : Sl (encF fI) 1 hG q.a q.n q.c q.L := rq
    have rr' : Sl (encF fI) 1 hG r.a r.n r.c r.L := rr
    have e0 := hv m
    rw [if_pos (Int.le_refl m)] at e0
    have e1 := hv (m + 1)
    rw [if_neg (by omega)] at e1
    refine callV (.int .i64 0) (fun w' hm => by
      have := verify50_spec m w' (hT.mono encT_mono (hm 0 _ rfl)) (hS.mono encN_mono (hm 0 _ rfl)) hs hE (rp'.mono (encF_mono _) (hm 2 _ rfl)) (rq'.mono (encF_mono _) (hm 2 _ rfl)) (rr'.mono (encF_mono _) (hm 2 _ rfl)) (by omega) (by omega) (by omega)
      rwa [e0] at this) ?_
    refine k2 _ _ ?_
    refine hideK 7 (fun _ k3 => ?_)
    refine callV (.int .i64 0) (fun w' hm => by
      have := Verify_spec m w' (hT.mono encT_mono (hm 0 _ rfl)) (hS.mono encN_mono (hm 0 _ rfl)) hs (rp'.mono (encF_mono _) (hm 2 _ rfl)) (rq'.mono (encF_mono _) (hm 2 _ rfl)) (rr'.mono (encF_mono _) (hm 2 _ rfl)) (by omega) (by omega) (by omega)
      rwa [e0] at this) ?_
    refine k3 _ _ ?_
    refine hideK 8 (fun _ k4 => ?_)
    refine nw (by omega) (by omega) ?_
    refine callV (.int .i64 27) (fun w' hm => by
      have := Verify_spec (m + 1) w' (hT.mono encT_mono (hm 0 _ rfl)) (hS.mono encN_mono (hm 0 _ rfl)) hs (rp'.mono (encF_mono _) (hm 2 _ rfl)) (rq'.mono (encF_mono _) (hm 2 _ rfl)) (rr'.mono (encF_mono _) (hm 2 _ rfl)) (by omega) (by omega) (by omega)
      rwa [e1] at this) ?_
    refine k4 _ _ ?_
    exact ⟨[], ⟨rfl, rfl⟩, fun w' h => h.pick [0] rfl rfl⟩
end
end Go.Proofs.YtnlkffccobdbjaaGreat
