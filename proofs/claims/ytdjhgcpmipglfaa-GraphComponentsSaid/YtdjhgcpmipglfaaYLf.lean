/- Contract of the reference's Parts. Its premises are its own. -/
import Derived.Test.YtdjhgcpmipglfaaYLe
namespace Go.Proofs.Ytdjhgcpmipglfaa
open Go Go.RowKit Go.Dw
set_option maxRecDepth 10000 in
theorem RParts_spec {a : Option Addr} {n c : Nat} {E : List (Int × Int)} (N : Nat) (w : World) (hL : Sl (encF fE) 2 (Hp.whole w) a n c E) (hG : Gr N E) (hE : Srt E) (hl : E.length ≤ 5000) :
    CallsE Try.prog 52 #[gv N a n c] w (Ret w fun v cs => ∃ a' n' c' h, v = .slice a' n' c' ∧ cs = [.hp h] ∧ Sl (encS (encF fI) 1) 1 h a' n' c' (compF N (bothE N E))) := by
  have hlen := hL.len
  refine enter (X := cx 21) (cxg _) (args := [.agg #[.int .i64 N, .slice a n c]]) [.tmp 2] Try.func52 rfl rfl rfl rfl rfl ?_
  intro b1
  have hrl : (revF E).length = E.length := by unfold revF; rw [sortF_len, List.length_map]
  have kR : ∀ {a : Option Addr} {n c : Nat} (w : World), Sl (encF fE) 2 (Hp.whole w) a n c E → CallsE Try.prog 56 #[gv N a n c] w (Ret w fun v cs => ∃ o : Dw.Os, v = gv N o.a o.n o.c ∧ cs = [.hp o.h] ∧ OwnO fE 85 2 o (revF E)) := fun w h => by
    have := RReverse_spec N w h (by omega)
    rw [rev_eq hG hE] at this; exact this
  have kM : ∀ {a : Option Addr} {n c : Nat} (w : World), Sl (encF fE) 2 (Hp.whole w) a n c (E ++ revF E) → CallsE Try.prog 18 #[.int .i64 N, .slice a n c] w (RetH w ((N : Int), bothE N E, 0)) := fun w h => by
    have hk := h.len
    have := Make_spec N w h (by rw [hk, List.length_append, hrl]; omega)
    rw [← makeR_rmkR, both_make hG] at this; exact this
  refine nrmD [.hp (Hp.whole w), .box b1 [.int .i64 N, .slice a n c] 35] rfl ?_
  refine NeedD.cut (Nat × Dw.Os) (fun g => [(3, .bx 1 0)]) (fun g => [.hp (Hp.whole w), .box g.1 [.int .i64 N, .slice g.2.a g.2.n g.2.c] 35, .hp g.2.h]) (fun g => OwnO fE 85 2 g.2 (bothE N E)) (NeedD.by_order (cxg _) (.take 0 <| .take 1 <| .take 3 <| .take 4 <| .take 6 <| .two 2 (.two 5 (.two 7 (.take 8 <| .two 9 (.two 10 (.take 11 <| .take 12 <| .take 13 <| .run 14 <| .run 15 <| .run 16 <| .done) 14 (.run 10 <| .run 11 <| .take 12 <| .take 13 <| .run 15 <| .run 16 <| .done)) 14 (.run 9 <| .run 10 <| .run 11 <| .take 12 <| .take 13 <| .run 15 <| .run 16 <| .done)) 14 (.run 7 <| .run 8 <| .run 9 <| .run 10 <| .run 11 <| .take 12 <| .take 13 <| .run 15 <| .run 16 <| .done)) 14 (.run 5 <| .run 7 <| .run 8 <| .run 9 <| .run 10 <| .run 11 <| .take 12 <| .take 13 <| .run 15 <| .run 16 <| .done)) 14 (.run 2 <| .run 5 <| .run 7 <| .run 8 <| .run 9 <| .run 10 <| .run 11 <| .take 12 <| .take 13 <| .run 15 <| .run 16 <| .done)) (by kernel_rfl) ?_) ?_
  · constructor
    · intro b7
      refine ⟨(by repeat first | exact trivial | refine ⟨.inl rfl, ?_⟩ | refine ⟨.inr rfl, ?_⟩), ?_⟩
      constructor
      · refine app0 (cxg _) (e := 85) rfl (fun _ => rfl) (fun _ => rfl) (k := 0) rfl hL rfl (by omega) fun oA hoA => ?_
        refine ⟨(by repeat first | exact trivial | refine ⟨.inl rfl, ?_⟩ | refine ⟨.inr rfl, ?_⟩), ?_⟩
        constructor
        · refine call (fun w' hm => kR w' (hL.mono (encF_mono _) (hm 0 _ rfl))) ?_
          rintro _ _ ⟨oR, rfl, rfl, hoR⟩
          have sR := OwnO.sl (f := fE) (fun _ => rfl) (by decide) hoR
          refine ⟨(by repeat first | exact trivial | refine ⟨.inl rfl, ?_⟩ | refine ⟨.inr rfl, ?_⟩), ?_⟩
          constructor
          · refine appS (cxg _) (e := 85) rfl (fun _ => rfl) (fun _ => rfl) (i := 3) rfl hoA (k := 4) rfl sR rfl (by omega) fun oC hoC _ => ?_
            have sC := OwnO.sl (f := fE) (fun _ => rfl) (by decide) hoC
            refine ⟨(by repeat first | exact trivial | refine ⟨.inl rfl, ?_⟩ | refine ⟨.inr rfl, ?_⟩), ?_⟩
            constructor
            · refine call (fun w' hm => kM w' (sC.mono (encF_mono _) (hm 3 _ rfl))) ?_
              rintro _ _ ⟨oM, rfl, rfl, hoM⟩
              refine ⟨(by repeat first | exact trivial | refine ⟨.inl rfl, ?_⟩ | refine ⟨.inr rfl, ?_⟩), ?_⟩
              intro b13
              refine ⟨(by repeat first | exact trivial | refine ⟨.inl rfl, ?_⟩ | refine ⟨.inr rfl, ?_⟩), ?_⟩
              refine ⟨(by repeat first | exact trivial | refine ⟨.inl rfl, ?_⟩ | refine ⟨.inr rfl, ?_⟩), ?_⟩
              exact ⟨(b13, oM), hoM, Ent.mk (fun _ _ h => h.pick [0, 6, 5] rfl rfl) rfl rfl⟩
            · intro b13
              refine ⟨(by repeat first | exact trivial | refine ⟨.inl rfl, ?_⟩ | refine ⟨.inr rfl, ?_⟩), ?_⟩
              refine call (fun w' hm => kM w' (sC.mono (encF_mono _) (hm 3 _ rfl))) ?_
              rintro _ _ ⟨oM, rfl, rfl, hoM⟩
              refine ⟨(by repeat first | exact trivial | refine ⟨.inl rfl, ?_⟩ | refine ⟨.inr rfl, ?_⟩), ?_⟩
              refine ⟨(by repeat first | exact trivial | refine ⟨.inl rfl, ?_⟩ | refine ⟨.inr rfl, ?_⟩), ?_⟩
              refine ⟨(by repeat first | exact trivial | refine ⟨.inl rfl, ?_⟩ | refine ⟨.inr rfl, ?_⟩), ?_⟩
              exact ⟨(b13, oM), hoM, Ent.mk (fun _ _ h => h.pick [0, 5, 6] rfl rfl) rfl rfl⟩
          · intro b13
            refine ⟨(by repeat first | exact trivial | refine ⟨.inl rfl, ?_⟩ | refine ⟨.inr rfl, ?_⟩), ?_⟩
            refine appS (cxg _) (e := 85) rfl (fun _ => rfl) (fun _ => rfl) (i := 3) rfl hoA (k := 4) rfl sR rfl (by omega) fun oC hoC _ => ?_
            have sC := OwnO.sl (f := fE) (fun _ => rfl) (by decide) hoC
            refine ⟨(by repeat first | exact trivial | refine ⟨.inl rfl, ?_⟩ | refine ⟨.inr rfl, ?_⟩), ?_⟩
            refine call (fun w' hm => kM w' (sC.mono (encF_mono _) (hm 3 _ rfl))) ?_
            rintro _ _ ⟨oM, rfl, rfl, hoM⟩
            refine ⟨(by repeat first | exact trivial | refine ⟨.inl rfl, ?_⟩ | refine ⟨.inr rfl, ?_⟩), ?_⟩
            refine ⟨(by repeat first | exact trivial | refine ⟨.inl rfl, ?_⟩ | refine ⟨.inr rfl, ?_⟩), ?_⟩
            refine ⟨(by repeat first | exact trivial | refine ⟨.inl rfl, ?_⟩ | refine ⟨.inr rfl, ?_⟩), ?_⟩
            exact ⟨(b13, oM), hoM, Ent.mk (fun _ _ h => h.pick [0, 5, 6] rfl rfl) rfl rfl⟩
        · intro b13
          refine ⟨(by repeat first | exact trivial | refine ⟨.inl rfl, ?_⟩ | refine ⟨.inr rfl, ?_⟩), ?_⟩
          refine call (fun w' hm => kR w' (hL.mono (encF_mono _) (hm 0 _ rfl))) ?_
          rintro _ _ ⟨oR, rfl, rfl, hoR⟩
          have sR := OwnO.sl (f := fE) (fun _ => rfl) (by decide) hoR
          refine ⟨(by repeat first | exact trivial | refine ⟨.inl rfl, ?_⟩ | refine ⟨.inr rfl, ?_⟩), ?_⟩
          refine ⟨(by repeat first | exact trivial | refine ⟨.inl rfl, ?_⟩ | refine ⟨.inr rfl, ?_⟩), ?_⟩
          refine appS (cxg _) (e := 85) rfl (fun _ => rfl) (fun _ => rfl) (i := 3) rfl hoA (k := 5) rfl sR rfl (by omega) fun oC hoC _ => ?_
          have sC := OwnO.sl (f := fE) (fun _ => rfl) (by decide) hoC
          refine ⟨(by repeat first | exact trivial | refine ⟨.inl rfl, ?_⟩ | refine ⟨.inr rfl, ?_⟩), ?_⟩
          refine call (fun w' hm => kM w' (sC.mono (encF_mono _) (hm 3 _ rfl))) ?_
          rintro _ _ ⟨oM, rfl, rfl, hoM⟩
          refine ⟨(by repeat first | exact trivial | refine ⟨.inl rfl, ?_⟩ | refine ⟨.inr rfl, ?_⟩), ?_⟩
          refine ⟨(by repeat first | exact trivial | refine ⟨.inl rfl, ?_⟩ | refine ⟨.inr rfl, ?_⟩), ?_⟩
          refine ⟨(by repeat first | exact trivial | refine ⟨.inl rfl, ?_⟩ | refine ⟨.inr rfl, ?_⟩), ?_⟩
          exact ⟨(b13, oM), hoM, Ent.mk (fun _ _ h => h.pick [0, 4, 6] rfl rfl) rfl rfl⟩
      · intro b13
        refine ⟨(by repeat first | exact trivial | refine ⟨.inl rfl, ?_⟩ | refine ⟨.inr rfl, ?_⟩), ?_⟩
        refine app0 (cxg _) (e := 85) rfl (fun _ => rfl) (fun _ => rfl) (k := 0) rfl hL rfl (by omega) fun oA hoA => ?_
        refine ⟨(by repeat first | exact trivial | refine ⟨.inl rfl, ?_⟩ | refine ⟨.inr rfl, ?_⟩), ?_⟩
        refine call (fun w' hm => kR w' (hL.mono (encF_mono _) (hm 0 _ rfl))) ?_
        rintro _ _ ⟨oR, rfl, rfl, hoR⟩
        have sR := OwnO.sl (f := fE) (fun _ => rfl) (by decide) hoR
        refine ⟨(by repeat first | exact trivial | refine ⟨.inl rfl, ?_⟩ | refine ⟨.inr rfl, ?_⟩), ?_⟩
        refine ⟨(by repeat first | exact trivial | refine ⟨.inl rfl, ?_⟩ | refine ⟨.inr rfl, ?_⟩), ?_⟩
        refine appS (cxg _) (e := 85) rfl (fun _ => rfl) (fun _ => rfl) (i := 4) rfl hoA (k := 5) rfl sR rfl (by omega) fun oC hoC _ => ?_
        have sC := OwnO.sl (f := fE) (fun _ => rfl) (by decide) hoC
        refine ⟨(by repeat first | exact trivial | refine ⟨.inl rfl, ?_⟩ | refine ⟨.inr rfl, ?_⟩), ?_⟩
        refine call (fun w' hm => kM w' (sC.mono (encF_mono _) (hm 4 _ rfl))) ?_
        rintro _ _ ⟨oM, rfl, rfl, hoM⟩
        refine ⟨(by repeat first | exact trivial | refine ⟨.inl rfl, ?_⟩ | refine ⟨.inr rfl, ?_⟩), ?_⟩
        refine ⟨(by repeat first | exact trivial | refine ⟨.inl rfl, ?_⟩ | refine ⟨.inr rfl, ?_⟩), ?_⟩
        refine ⟨(by repeat first | exact trivial | refine ⟨.inl rfl, ?_⟩ | refine ⟨.inr rfl, ?_⟩), ?_⟩
        exact ⟨(b13, oM), hoM, Ent.mk (fun _ _ h => h.pick [0, 3, 6] rfl rfl) rfl rfl⟩
    · intro b13
      refine ⟨(by repeat first | exact trivial | refine ⟨.inl rfl, ?_⟩ | refine ⟨.inr rfl, ?_⟩), ?_⟩
      intro b7
      refine ⟨(by repeat first | exact trivial | refine ⟨.inl rfl, ?_⟩ | refine ⟨.inr rfl, ?_⟩), ?_⟩
      refine app0 (cxg _) (e := 85) rfl (fun _ => rfl) (fun _ => rfl) (k := 0) rfl hL rfl (by omega) fun oA hoA => ?_
      refine ⟨(by repeat first | exact trivial | refine ⟨.inl rfl, ?_⟩ | refine ⟨.inr rfl, ?_⟩), ?_⟩
      refine call (fun w' hm => kR w' (hL.mono (encF_mono _) (hm 0 _ rfl))) ?_
      rintro _ _ ⟨oR, rfl, rfl, hoR⟩
      have sR := OwnO.sl (f := fE) (fun _ => rfl) (by decide) hoR
      refine ⟨(by repeat first | exact trivial | refine ⟨.inl rfl, ?_⟩ | refine ⟨.inr rfl, ?_⟩), ?_⟩
      refine ⟨(by repeat first | exact trivial | refine ⟨.inl rfl, ?_⟩ | refine ⟨.inr rfl, ?_⟩), ?_⟩
      refine appS (cxg _) (e := 85) rfl (fun _ => rfl) (fun _ => rfl) (i := 4) rfl hoA (k := 5) rfl sR rfl (by omega) fun oC hoC _ => ?_
      have sC := OwnO.sl (f := fE) (fun _ => rfl) (by decide) hoC
      refine ⟨(by repeat first | exact trivial | refine ⟨.inl rfl, ?_⟩ | refine ⟨.inr rfl, ?_⟩), ?_⟩
      refine call (fun w' hm => kM w' (sC.mono (encF_mono _) (hm 4 _ rfl))) ?_
      rintro _ _ ⟨oM, rfl, rfl, hoM⟩
      refine ⟨(by repeat first | exact trivial | refine ⟨.inl rfl, ?_⟩ | refine ⟨.inr rfl, ?_⟩), ?_⟩
      refine ⟨(by repeat first | exact trivial | refine ⟨.inl rfl, ?_⟩ | refine ⟨.inr rfl, ?_⟩), ?_⟩
      refine ⟨(by repeat first | exact trivial | refine ⟨.inl rfl, ?_⟩ | refine ⟨.inr rfl, ?_⟩), ?_⟩
      exact ⟨(b13, oM), hoM, Ent.mk (fun _ _ h => h.pick [0, 2, 6] rfl rfl) rfl rfl⟩
  · rintro ⟨b13, oM⟩ hoM -
    dsimp only at *
    have sM := OwnO.sl (f := fE) (fun _ => rfl) (by decide) hoM
    refine call (fun w' hm => RComponents_spec N w' (sM.mono (encF_mono _) (hm 2 _ rfl)) (both_gr hG hl)) ?_
    rintro _ _ ⟨a', n', c', hh, rfl, rfl, hC⟩
    exact ⟨[.hp hh], ⟨a', n', c', hh, rfl, rfl, hC⟩, fun w' h => h.pick [0, 3] rfl rfl⟩
end Go.Proofs.Ytdjhgcpmipglfaa
