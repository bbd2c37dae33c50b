/- The law RemovableConnected returns true. Its premises are its arguments' form and the table of math/bits. -/
import Derived.Test.YtbcjdjlihhlkaaaGreatDoorXO
namespace Go.Proofs.YtbcjdjlihhlkaaaGreatDoor
open Go Go.RowKit Go.Dw
set_option maxHeartbeats 1600000 in
set_option maxRecDepth 10000 in
theorem connected24_ok {a a' : Option Addr} {n c n' c' : Nat} {U U' : List Int} (N N' : Int) (w : World) (hU : Sl (encF fY) 1 (Hp.whole w) a n c U) (hU' : Sl (encF fY) 1 (Hp.whole w) a' n' c' U') (hN : 0 ≤ N ∧ N ≤ 255) (hN' : 0 ≤ N' ∧ N' ≤ 255) (hUr : ∀ u ∈ U, 0 ≤ u ∧ u ≤ 255) (hUr' : ∀ u ∈ U', 0 ≤ u ∧ u ≤ 255) (u : Int) (hu : 0 ≤ u ∧ u ≤ 255) (v : Int) (hv : 0 ≤ v ∧ v ≤ 255) (hT : Tab (Hp.whole w)) :
    CallsE Tryz.prog 4 #[.agg #[.int .u8 N, .slice a n c], .agg #[.int .u8 N', .slice a' n' c'], .agg #[.int .u8 u, .int .u8 v]] w (RetV w (.bool true)) := by
  obtain ⟨M, hM⟩ : ∃ M, M = N.toNat % 8 := ⟨_, rfl⟩
  have hM7 : M ≤ 7 := by omega
  obtain ⟨E, hEd⟩ : ∃ E, E = netE M U := ⟨_, rfl⟩
  have hG : Gr M E := hEd ▸ net_gr hM7 U
  have h0 : checkF M E = 0 := hEd ▸ net_check hM7 U
  obtain ⟨M', hM'⟩ : ∃ M, M = N'.toNat % 8 := ⟨_, rfl⟩
  have hM7' : M' ≤ 7 := by omega
  obtain ⟨F, hFd⟩ : ∃ E, E = netE M' U' := ⟨_, rfl⟩
  have hGF : Gr M' F := hFd ▸ net_gr hM7' U'
  have h0F : checkF M' F = 0 := hFd ▸ net_check hM7' U'
  obtain ⟨k, hk⟩ : ∃ k, k = u.toNat % 8 := ⟨_, rfl⟩
  obtain ⟨y, hy⟩ : ∃ y, y = v.toNat % (M + 1) := ⟨_, rfl⟩
  have hyM : y < M + 1 := by rw [hy]; exact Nat.mod_lt _ (by omega)
  obtain ⟨x, hx⟩ : ∃ x : Int, x = (y : Int) - 1 := ⟨_, rfl⟩
  have hr : resE M E k x = 0 := by
    unfold resE
    rw [if_neg (by rw [h0]; decide), if_neg (by omega)]
  have hr0 : resE M E 0 (-1) = 0 := by
    unfold resE
    rw [if_neg (by rw [h0]; decide), if_neg (by omega)]
  have hp7 : 2 ^ M ≤ 128 := Nat.pow_le_pow_right (n := 2) (by decide) hM7
  have hp1 : 0 < 2 ^ M := Nat.two_pow_pos M
  have kG : ∀ w : World, Sl (encF fY) 1 (Hp.whole w) a n c U → CallsE Tryz.prog 7 #[.agg #[.int .u8 N, .slice a n c]] w (Ret w fun v cs => ∃ o : Dw.Os, v = gv M o.a o.n o.c ∧ cs = [.hp o.h] ∧ OwnO fE 58 2 o E) := fun w h => by
    rw [hEd, hM]; exact Net_spec N w h hN hUr
  have kG' : ∀ w : World, Sl (encF fY) 1 (Hp.whole w) a' n' c' U' → CallsE Tryz.prog 7 #[.agg #[.int .u8 N', .slice a' n' c']] w (Ret w fun v cs => ∃ o : Dw.Os, v = gv M' o.a o.n o.c ∧ cs = [.hp o.h] ∧ OwnO fE 58 2 o F) := fun w h => by
    rw [hFd, hM']; exact Net_spec N' w h hN' hUr'
  obtain ⟨K, hK⟩ : ∃ K, K = candF M E k x := ⟨_, rfl⟩
  obtain ⟨R, hR⟩ : ∃ K, K = candF M E 0 (-1) := ⟨_, rfl⟩
  have hKl : K.length ≤ 128 := by rw [hK]; have := candK_len E k x (2 ^ M - 2); unfold candF; omega
  have hRl : R.length ≤ 128 := by rw [hR]; have := candK_len E 0 (-1) (2 ^ M - 2); unfold candF; omega
  have hKr : ∀ x ∈ K, x.length ≤ 64 := by rw [hK]; exact candK_row E k x _
  have hRr : ∀ x ∈ R, x.length ≤ 64 := by rw [hR]; exact candK_row E 0 (-1) _
  have hKs : ∀ L ∈ K, ofN L ≤ 2 ^ M - 2 ∧ 0 < ofN L ∧ nod (ofN L) = L := fun L h => by rw [hK] at h; exact can_sub hM7 h
  have hRs : ∀ L ∈ R, ofN L ≤ 2 ^ M - 2 ∧ 0 < ofN L ∧ nod (ofN L) = L := fun L h => by rw [hR] at h; exact can_sub hM7 h
  have rg : ∀ L, (ofN L ≤ 2 ^ M - 2 ∧ 0 < ofN L ∧ nod (ofN L) = L) → ∀ x ∈ L, 0 ≤ x ∧ x < 63 := fun L h x hx => by
    obtain ⟨h1, h2, h3⟩ := h
    rw [← h3, nod_rng hG.hN (bits_iff.2 (by omega))] at hx
    obtain ⟨v, g1, _, rfl⟩ := mem_cast.1 hx
    omega
  have kC : ∀ {a : Option Addr} {n c : Nat} (w : World), Sl (encF fE) 2 (Hp.whole w) a n c E → CallsE Tryz.prog 13 #[gv M a n c, .int .i64 k, .int .i64 x] w (Ret w fun v cs => ∃ a' n' c' h, v = .slice a' n' c' ∧ cs = [.hp h] ∧ Sl (encS (encF fI) 1) 1 h a' n' c' K) := fun w h => by
    rw [hK]; exact modCand_spec M hM7 k x (by omega) w h hG
  have kC2 : ∀ {a : Option Addr} {n c : Nat} (w : World), Sl (encF fE) 2 (Hp.whole w) a n c E → CallsE Tryz.prog 13 #[gv M a n c, .int .i64 0, .int .i64 (-1)] w (Ret w fun v cs => ∃ a' n' c' h, v = .slice a' n' c' ∧ cs = [.hp h] ∧ Sl (encS (encF fI) 1) 1 h a' n' c' R) := fun w h => by
    rw [hR]; exact modCand_spec M hM7 0 (-1) (by decide) w h hG
  have kT : ∀ {a : Option Addr} {n c : Nat} (w : World) (z : Int) (s : Nat), z = (s : Int) → s < 9223372036854775808 → Sl (encF fE) 2 (Hp.whole w) a n c F → CallsE Tryz.prog 21 #[gv M' a n c, .int .i64 z] w (RetV w (.bool (hanF M' F s))) := fun w z s hz hs h => by
    rw [hz]; exact together_spec M' w h hGF (by omega) s hs
  obtain ⟨p1, hp1⟩ : ∃ p : List Int → Bool, p = fun L => hanF M' F (ofN L) := ⟨_, rfl⟩
  obtain ⟨p2, hp2⟩ : ∃ p : List Int → Bool, p = fun L => hanF M' F (ofN L) && hanF M' F (2 ^ M - 1 - ofN L) := ⟨_, rfl⟩
  obtain ⟨A, hA⟩ : ∃ A, A = choR M E M' F k x (coF M' F) := ⟨_, rfl⟩
  obtain ⟨D, hD⟩ : ∃ A, A = choR M E M' F 0 (-1) (haF M M' F) := ⟨_, rfl⟩
  obtain ⟨e, he⟩ : ∃ e, e = pairE M E M' F k x := ⟨_, rfl⟩
  obtain ⟨f, hf⟩ : ∃ e, e = pairE M E M' F 0 (-1) := ⟨_, rfl⟩
  have kA : ∀ {a a' : Option Addr} {n c n' c' : Nat} (w : World), Sl (encF fE) 2 (Hp.whole w) a n c E → Sl (encF fE) 2 (Hp.whole w) a' n' c' F → Tab (Hp.whole w) → CallsE Tryz.prog 12 #[gv M a n c, gv M' a' n' c', .int .i64 k, .int .i64 x] w (RetR w A e) := fun w h h' hT => by
    rw [hA, he]; exact Connected_spec M M' k x w h h' (fun _ => by omega) hT
  have kD : ∀ {a a' : Option Addr} {n c n' c' : Nat} (w : World), Sl (encF fE) 2 (Hp.whole w) a n c E → Sl (encF fE) 2 (Hp.whole w) a' n' c' F → Tab (Hp.whole w) → CallsE Tryz.prog 20 #[gv M a n c, gv M' a' n' c'] w (RetR w D f) := fun w h h' hT => by
    rw [hD, hf]; exact Halves_spec M M' w h h' (fun _ => by omega) hT
  have ne : (M : Int) ≠ (M' : Int) → A = [] ∧ e = 13 ∧ D = [] ∧ f = 13 := fun h => by
    have e1 : e = 13 := by rw [he]; unfold pairE; rw [if_neg (by rw [h0]; decide), if_neg (by rw [h0F]; decide), if_pos h]
    have f1 : f = 13 := by rw [hf]; unfold pairE; rw [if_neg (by rw [h0]; decide), if_neg (by rw [h0F]; decide), if_pos h]
    refine ⟨?_, e1, ?_, f1⟩
    · rw [hA]; unfold choR; rw [← he, e1]; rfl
    · rw [hD]; unfold choR; rw [← hf, f1]; rfl
  have eq : ¬ (M : Int) ≠ (M' : Int) → A = K.filter p1 ∧ e = 0 ∧ D = R.filter p2 ∧ f = 0 := fun h => by
    have e1 : e = 0 := by rw [he]; unfold pairE; rw [if_neg (by rw [h0]; decide), if_neg (by rw [h0F]; decide), if_neg h, hr]
    have f1 : f = 0 := by rw [hf]; unfold pairE; rw [if_neg (by rw [h0]; decide), if_neg (by rw [h0F]; decide), if_neg h, hr0]
    have hMM : M = M' := by omega
    refine ⟨?_, e1, ?_, f1⟩
    · rw [hA, hK]; unfold choR; rw [← he, if_pos e1, Int.toNat_natCast]
      refine cho_filter hG hM7 (by omega) fun L _ => ?_
      rw [hp1]; unfold coF; rw [Int.toNat_natCast]
    · rw [hD, hR]; unfold choR; rw [← hf, if_pos f1, Int.toNat_natCast]
      refine cho_filter hG hM7 (by omega) fun L hL => ?_
      have := (can_sub hM7 hL).1
      rw [hp2]; unfold haF halF; rw [Int.toNat_natCast, Int.toNat_natCast, all_less hM7 (by omega)]
  have hbK : ∀ {i : Nat} (hi : i < K.length) (w' : World) {a1 : Option Addr} {n1 c1 : Nat}, Sl (encF fI) 1 (Hp.whole w') a1 n1 c1 K[i] → CallsE Tryz.prog 22 #[.slice a1 n1 c1] w' (RetV w' (.int .i64 (ofN K[i] : Nat))) := fun hi w' _ _ _ h => modBits_spec w' h (rg _ (hKs _ (List.getElem_mem hi))) (by have := h.len; have := hKr _ (List.getElem_mem hi); omega)
  have hbR : ∀ {i : Nat} (hi : i < R.length) (w' : World) {a1 : Option Addr} {n1 c1 : Nat}, Sl (encF fI) 1 (Hp.whole w') a1 n1 c1 R[i] → CallsE Tryz.prog 22 #[.slice a1 n1 c1] w' (RetV w' (.int .i64 (ofN R[i] : Nat))) := fun hi w' _ _ _ h => modBits_spec w' h (rg _ (hRs _ (List.getElem_mem hi))) (by have := h.len; have := hRr _ (List.getElem_mem hi); omega)
  refine enter (X := cx 147) (cxg _) (args := [.agg #[.int .u8 N, .slice a n c], .agg #[.int .u8 N', .slice a' n' c'], .agg #[.int .u8 u, .int .u8 v]]) [.tmp 6] Tryz.func4 rfl rfl rfl rfl rfl ?_
  intro b3 b4 b5
  refine callV _ (fun w' hm => known24_spec w' (hT.mono (hm 0 _ rfl))) ?_
  refine NeedD.cut (Dw.Os × Dw.Os × Nat × Nat) (fun g => [(5, .bx 3 0), (7, .bx 6 0), (8, .bx 7 0)]) (fun g => [.hp (Hp.whole w), .box b3 [.int .u8 N, .slice a n c] 27, .box b4 [.int .u8 N', .slice a' n' c'] 27, .box b5 [.int .u8 u, .int .u8 v] 53, .hp g.1.h, .hp g.2.1.h, .box g.2.2.1 [.int .i64 M, .slice g.1.a g.1.n g.1.c] 24, .box g.2.2.2 [.int .i64 M', .slice g.2.1.a g.2.1.n g.2.1.c] 24]) (fun g => OwnO fE 58 2 g.1 E ∧ OwnO fE 58 2 g.2.1 F) (NeedD.by_order (cxg _) (.take 0 <| .take 2 <| .three 1 (.three 3 (.two 4 (.run 5 <| .run 6 <| .run 7 <| .done) 5 (.run 4 <| .run 6 <| .run 7 <| .done)) 4 (.two 3 (.run 5 <| .run 6 <| .run 7 <| .done) 5 (.run 3 <| .run 6 <| .run 7 <| .done)) 5 (.two 3 (.run 4 <| .run 6 <| .run 7 <| .done) 4 (.run 3 <| .run 6 <| .run 7 <| .done))) 4 (.two 1 (.two 3 (.run 5 <| .run 6 <| .run 7 <| .done) 5 (.run 3 <| .run 6 <| .run 7 <| .done)) 5 (.run 1 <| .run 3 <| .run 6 <| .run 7 <| .done)) 5 (.two 1 (.two 3 (.run 4 <| .run 6 <| .run 7 <| .done) 4 (.run 3 <| .run 6 <| .run 7 <| .done)) 4 (.run 1 <| .run 3 <| .run 6 <| .run 7 <| .done))) (by kernel_rfl) ?_) ?_
  · skip
    refine ⟨?_, ?_, ?_⟩
    · refine call (fun w' hm => kG w' (hU.mono (encF_mono _) (hm 0 _ rfl))) ?_
      rintro _ _ ⟨oG, rfl, rfl, hoG⟩
      refine ⟨(by repeat first | exact trivial | refine ⟨.inl rfl, ?_⟩ | refine ⟨.inr rfl, ?_⟩), ?_⟩
      refine ⟨?_, ?_, ?_⟩
      · refine call (fun w' hm => kG' w' (hU'.mono (encF_mono _) (hm 0 _ rfl))) ?_
        rintro _ _ ⟨oF, rfl, rfl, hoF⟩
        refine ⟨(by repeat first | exact trivial | refine ⟨.inl rfl, ?_⟩ | refine ⟨.inr rfl, ?_⟩), ?_⟩
        constructor
        · intro b7
          refine ⟨(by repeat first | exact trivial | refine ⟨.inl rfl, ?_⟩ | refine ⟨.inr rfl, ?_⟩), ?_⟩
          intro b8
          refine ⟨(by repeat first | exact trivial | refine ⟨.inl rfl, ?_⟩ | refine ⟨.inr rfl, ?_⟩), ?_⟩
          refine ⟨(by repeat first | exact trivial | refine ⟨.inl rfl, ?_⟩ | refine ⟨.inr rfl, ?_⟩), ?_⟩
          exact ⟨(oG, oF, b7, b8), ⟨hoG, hoF⟩, Ent.mk (fun _ _ h => h.pick [0, 1, 2, 3, 4, 5, 6, 7] rfl rfl) rfl rfl⟩
        · intro b8
          refine ⟨(by repeat first | exact trivial | refine ⟨.inl rfl, ?_⟩ | refine ⟨.inr rfl, ?_⟩), ?_⟩
          intro b7
          refine ⟨(by repeat first | exact trivial | refine ⟨.inl rfl, ?_⟩ | refine ⟨.inr rfl, ?_⟩), ?_⟩
          refine ⟨(by repeat first | exact trivial | refine ⟨.inl rfl, ?_⟩ | refine ⟨.inr rfl, ?_⟩), ?_⟩
          exact ⟨(oG, oF, b7, b8), ⟨hoG, hoF⟩, Ent.mk (fun _ _ h => h.pick [0, 1, 2, 3, 4, 5, 7, 6] rfl rfl) rfl rfl⟩
      · intro b7
        refine ⟨(by repeat first | exact trivial | refine ⟨.inl rfl, ?_⟩ | refine ⟨.inr rfl, ?_⟩), ?_⟩
        constructor
        · refine call (fun w' hm => kG' w' (hU'.mono (encF_mono _) (hm 0 _ rfl))) ?_
          rintro _ _ ⟨oF, rfl, rfl, hoF⟩
          refine ⟨(by repeat first | exact trivial | refine ⟨.inl rfl, ?_⟩ | refine ⟨.inr rfl, ?_⟩), ?_⟩
          intro b8
          refine ⟨(by repeat first | exact trivial | refine ⟨.inl rfl, ?_⟩ | refine ⟨.inr rfl, ?_⟩), ?_⟩
          refine ⟨(by repeat first | exact trivial | refine ⟨.inl rfl, ?_⟩ | refine ⟨.inr rfl, ?_⟩), ?_⟩
          exact ⟨(oG, oF, b7, b8), ⟨hoG, hoF⟩, Ent.mk (fun _ _ h => h.pick [0, 1, 2, 3, 4, 6, 5, 7] rfl rfl) rfl rfl⟩
        · intro b8
          refine ⟨(by repeat first | exact trivial | refine ⟨.inl rfl, ?_⟩ | refine ⟨.inr rfl, ?_⟩), ?_⟩
          refine call (fun w' hm => kG' w' (hU'.mono (encF_mono _) (hm 0 _ rfl))) ?_
          rintro _ _ ⟨oF, rfl, rfl, hoF⟩
          refine ⟨(by repeat first | exact trivial | refine ⟨.inl rfl, ?_⟩ | refine ⟨.inr rfl, ?_⟩), ?_⟩
          refine ⟨(by repeat first | exact trivial | refine ⟨.inl rfl, ?_⟩ | refine ⟨.inr rfl, ?_⟩), ?_⟩
          exact ⟨(oG, oF, b7, b8), ⟨hoG, hoF⟩, Ent.mk (fun _ _ h => h.pick [0, 1, 2, 3, 4, 7, 5, 6] rfl rfl) rfl rfl⟩
      · intro b8
        refine ⟨(by repeat first | exact trivial | refine ⟨.inl rfl, ?_⟩ | refine ⟨.inr rfl, ?_⟩), ?_⟩
        constructor
        · refine call (fun w' hm => kG' w' (hU'.mono (encF_mono _) (hm 0 _ rfl))) ?_
          rintro _ _ ⟨oF, rfl, rfl, hoF⟩
          refine ⟨(by repeat first | exact trivial | refine ⟨.inl rfl, ?_⟩ | refine ⟨.inr rfl, ?_⟩), ?_⟩
          intro b7
          refine ⟨(by repeat first | exact trivial | refine ⟨.inl rfl, ?_⟩ | refine ⟨.inr rfl, ?_⟩), ?_⟩
          refine ⟨(by repeat first | exact trivial | refine ⟨.inl rfl, ?_⟩ | refine ⟨.inr rfl, ?_⟩), ?_⟩
          exact ⟨(oG, oF, b7, b8), ⟨hoG, hoF⟩, Ent.mk (fun _ _ h => h.pick [0, 1, 2, 3, 4, 6, 7, 5] rfl rfl) rfl rfl⟩
        · intro b7
          refine ⟨(by repeat first | exact trivial | refine ⟨.inl rfl, ?_⟩ | refine ⟨.inr rfl, ?_⟩), ?_⟩
          refine call (fun w' hm => kG' w' (hU'.mono (encF_mono _) (hm 0 _ rfl))) ?_
          rintro _ _ ⟨oF, rfl, rfl, hoF⟩
          refine ⟨(by repeat first | exact trivial | refine ⟨.inl rfl, ?_⟩ | refine ⟨.inr rfl, ?_⟩), ?_⟩
          refine ⟨(by repeat first | exact trivial | refine ⟨.inl rfl, ?_⟩ | refine ⟨.inr rfl, ?_⟩), ?_⟩
          exact ⟨(oG, oF, b7, b8), ⟨hoG, hoF⟩, Ent.mk (fun _ _ h => h.pick [0, 1, 2, 3, 4, 7, 6, 5] rfl rfl) rfl rfl⟩
    · intro b7
      refine ⟨(by repeat first | exact trivial | refine ⟨.inl rfl, ?_⟩ | refine ⟨.inr rfl, ?_⟩), ?_⟩
      constructor
      · refine call (fun w' hm => kG w' (hU.mono (encF_mono _) (hm 0 _ rfl))) ?_
        rintro _ _ ⟨oG, rfl, rfl, hoG⟩
        refine ⟨(by repeat first | exact trivial | refine ⟨.inl rfl, ?_⟩ | refine ⟨.inr rfl, ?_⟩), ?_⟩
        constructor
        · refine call (fun w' hm => kG' w' (hU'.mono (encF_mono _) (hm 0 _ rfl))) ?_
          rintro _ _ ⟨oF, rfl, rfl, hoF⟩
          refine ⟨(by repeat first | exact trivial | refine ⟨.inl rfl, ?_⟩ | refine ⟨.inr rfl, ?_⟩), ?_⟩
          intro b8
          refine ⟨(by repeat first | exact trivial | refine ⟨.inl rfl, ?_⟩ | refine ⟨.inr rfl, ?_⟩), ?_⟩
          refine ⟨(by repeat first | exact trivial | refine ⟨.inl rfl, ?_⟩ | refine ⟨.inr rfl, ?_⟩), ?_⟩
          exact ⟨(oG, oF, b7, b8), ⟨hoG, hoF⟩, Ent.mk (fun _ _ h => h.pick [0, 1, 2, 3, 5, 6, 4, 7] rfl rfl) rfl rfl⟩
        · intro b8
          refine ⟨(by repeat first | exact trivial | refine ⟨.inl rfl, ?_⟩ | refine ⟨.inr rfl, ?_⟩), ?_⟩
          refine call (fun w' hm => kG' w' (hU'.mono (encF_mono _) (hm 0 _ rfl))) ?_
          rintro _ _ ⟨oF, rfl, rfl, hoF⟩
          refine ⟨(by repeat first | exact trivial | refine ⟨.inl rfl, ?_⟩ | refine ⟨.inr rfl, ?_⟩), ?_⟩
          refine ⟨(by repeat first | exact trivial | refine ⟨.inl rfl, ?_⟩ | refine ⟨.inr rfl, ?_⟩), ?_⟩
          exact ⟨(oG, oF, b7, b8), ⟨hoG, hoF⟩, Ent.mk (fun _ _ h => h.pick [0, 1, 2, 3, 5, 7, 4, 6] rfl rfl) rfl rfl⟩
      · intro b8
        refine ⟨(by repeat first | exact trivial | refine ⟨.inl rfl, ?_⟩ | refine ⟨.inr rfl, ?_⟩), ?_⟩
        refine call (fun w' hm => kG w' (hU.mono (encF_mono _) (hm 0 _ rfl))) ?_
        rintro _ _ ⟨oG, rfl, rfl, hoG⟩
        refine ⟨(by repeat first | exact trivial | refine ⟨.inl rfl, ?_⟩ | refine ⟨.inr rfl, ?_⟩), ?_⟩
        refine call (fun w' hm => kG' w' (hU'.mono (encF_mono _) (hm 0 _ rfl))) ?_
        rintro _ _ ⟨oF, rfl, rfl, hoF⟩
        refine ⟨(by repeat first | exact trivial | refine ⟨.inl rfl, ?_⟩ | refine ⟨.inr rfl, ?_⟩), ?_⟩
        refine ⟨(by repeat first | exact trivial | refine ⟨.inl rfl, ?_⟩ | refine ⟨.inr rfl, ?_⟩), ?_⟩
        exact ⟨(oG, oF, b7, b8), ⟨hoG, hoF⟩, Ent.mk (fun _ _ h => h.pick [0, 1, 2, 3, 6, 7, 4, 5] rfl rfl) rfl rfl⟩
    · intro b8
      refine ⟨(by repeat first | exact trivial | refine ⟨.inl rfl, ?_⟩ | refine ⟨.inr rfl, ?_⟩), ?_⟩
      constructor
      · refine call (fun w' hm => kG w' (hU.mono (encF_mono _) (hm 0 _ rfl))) ?_
        rintro _ _ ⟨oG, rfl, rfl, hoG⟩
        refine ⟨(by repeat first | exact trivial | refine ⟨.inl rfl, ?_⟩ | refine ⟨.inr rfl, ?_⟩), ?_⟩
        constructor
        · refine call (fun w' hm => kG' w' (hU'.mono (encF_mono _) (hm 0 _ rfl))) ?_
          rintro _ _ ⟨oF, rfl, rfl, hoF⟩
          refine ⟨(by repeat first | exact trivial | refine ⟨.inl rfl, ?_⟩ | refine ⟨.inr rfl, ?_⟩), ?_⟩
          intro b7
          refine ⟨(by repeat first | exact trivial | refine ⟨.inl rfl, ?_⟩ | refine ⟨.inr rfl, ?_⟩), ?_⟩
          refine ⟨(by repeat first | exact trivial | refine ⟨.inl rfl, ?_⟩ | refine ⟨.inr rfl, ?_⟩), ?_⟩
          exact ⟨(oG, oF, b7, b8), ⟨hoG, hoF⟩, Ent.mk (fun _ _ h => h.pick [0, 1, 2, 3, 5, 6, 7, 4] rfl rfl) rfl rfl⟩
        · intro b7
          refine ⟨(by repeat first | exact trivial | refine ⟨.inl rfl, ?_⟩ | refine ⟨.inr rfl, ?_⟩), ?_⟩
          refine call (fun w' hm => kG' w' (hU'.mono (encF_mono _) (hm 0 _ rfl))) ?_
          rintro _ _ ⟨oF, rfl, rfl, hoF⟩
          refine ⟨(by repeat first | exact trivial | refine ⟨.inl rfl, ?_⟩ | refine ⟨.inr rfl, ?_⟩), ?_⟩
          refine ⟨(by repeat first | exact trivial | refine ⟨.inl rfl, ?_⟩ | refine ⟨.inr rfl, ?_⟩), ?_⟩
          exact ⟨(oG, oF, b7, b8), ⟨hoG, hoF⟩, Ent.mk (fun _ _ h => h.pick [0, 1, 2, 3, 5, 7, 6, 4] rfl rfl) rfl rfl⟩
      · intro b7
        refine ⟨(by repeat first | exact trivial | refine ⟨.inl rfl, ?_⟩ | refine ⟨.inr rfl, ?_⟩), ?_⟩
        refine call (fun w' hm => kG w' (hU.mono (encF_mono _) (hm 0 _ rfl))) ?_
        rintro _ _ ⟨oG, rfl, rfl, hoG⟩
        refine ⟨(by repeat first | exact trivial | refine ⟨.inl rfl, ?_⟩ | refine ⟨.inr rfl, ?_⟩), ?_⟩
        refine call (fun w' hm => kG' w' (hU'.mono (encF_mono _) (hm 0 _ rfl))) ?_
        rintro _ _ ⟨oF, rfl, rfl, hoF⟩
        refine ⟨(by repeat first | exact trivial | refine ⟨.inl rfl, ?_⟩ | refine ⟨.inr rfl, ?_⟩), ?_⟩
        refine ⟨(by repeat first | exact trivial | refine ⟨.inl rfl, ?_⟩ | refine ⟨.inr rfl, ?_⟩), ?_⟩
        exact ⟨(oG, oF, b7, b8), ⟨hoG, hoF⟩, Ent.mk (fun _ _ h => h.pick [0, 1, 2, 3, 6, 7, 5, 4] rfl rfl) rfl rfl⟩
  rintro ⟨oG, oF, b7, b8⟩ ⟨hoG, hoF⟩ _
  dsimp only at *
  have sE := OwnO.sl (f := fE) (fun _ => rfl) (by decide) hoG
  have sF := OwnO.sl (f := fE) (fun _ => rfl) (by decide) hoF
  refine NeedD.cut Unit (fun _ => [(7, .bx 3 0), (8, .bx 4 0), (9, .v (.int .i64 k)), (10, .v (.int .i64 x))]) (fun _ => [.hp (Hp.whole w), .hp oG.h, .hp oF.h, .box b7 [.int .i64 M, .slice oG.a oG.n oG.c] 24, .box b8 [.int .i64 M', .slice oF.a oF.n oF.c] 24]) (fun _ => True) (NeedD.by_order (cxg _) (.take 0 <| .take 1 <| .take 2 <| .take 3 <| .take 4 <| .take 5 <| .take 6 <| .take 7 <| .take 8 <| .take 9 <| .take 10 <| .take 11 <| .take 12 <| .take 13 <| .done) (by kernel_rfl) ?_) ?_
  · refine qRemN u.toNat 8 (by omega) rfl (by decide) ?_
    rw [← hk]
    refine nw (by omega) (by omega) ?_
    refine nw (by omega) (by omega) ?_
    refine nw (by omega) (by omega) ?_
    refine qRemN v.toNat (M + 1) (by omega) (by omega) (by omega) ?_
    rw [← hy]
    refine nw (by omega) (by omega) ?_
    rw [← hx]
    exact ⟨(), trivial, Ent.mk (fun _ _ h => h.pick [0, 4, 5, 6, 7] rfl rfl) rfl rfl⟩
  rintro ⟨⟩ _ _
  dsimp only
  refine call (fun w' hm => kA w' (sE.mono (encF_mono _) (hm 1 _ rfl)) (sF.mono (encF_mono _) (hm 2 _ rfl)) (hT.mono (hm 0 _ rfl))) ?_
  rintro _ _ ⟨aA, nA, cA, gA, rfl, rfl, sA⟩
  have lA := sA.len
  refine hideQ (fun _ h => h _ _ ?_)
  refine normS [.hp (Hp.whole w), .hp oG.h, .hp oF.h, .box b7 [.int .i64 M, .slice oG.a oG.n oG.c] 24, .box b8 [.int .i64 M', .slice oF.a oF.n oF.c] 24, .hp gA] rfl ?_
  refine call (fun w' hm => kD w' (sE.mono (encF_mono _) (hm 1 _ rfl)) (sF.mono (encF_mono _) (hm 2 _ rfl)) (hT.mono (hm 0 _ rfl))) ?_
  rintro _ _ ⟨aD, nD, cD, gD, rfl, rfl, sD⟩
  have lD := sD.len
  refine hideQ (fun _ h => h _ _ ?_)
  refine normS [.hp (Hp.whole w), .hp oG.h, .hp oF.h, .box b7 [.int .i64 M, .slice oG.a oG.n oG.c] 24, .box b8 [.int .i64 M', .slice oF.a oF.n oF.c] 24, .hp gA, .hp gD] rfl ?_
  refine bsplitd (fun hne => ?_) (fun hne => ?_)
  · obtain ⟨rfl, rfl, rfl, rfl⟩ := ne hne
    rw [show nA = 0 from lA, show nD = 0 from lD]
    exact ⟨[], ⟨rfl, rfl⟩, fun w' h => h.pick [0] rfl rfl⟩
  obtain ⟨qA, qe, qD, qf⟩ := eq hne
  refine call (fun w' hm => kC w' (sE.mono (encF_mono _) (hm 1 _ rfl))) ?_
  rintro _ _ ⟨aK, nK, cK, gK, rfl, rfl, sK⟩
  have lK := sK.len
  refine NeedL.mk (Nat × Dw.Os × List Value) (fun g => [(7, .bx 3 0), (8, .bx 4 0), (11, .v (.slice aA nA cA)), (12, .v (.int .i64 e)), (13, .v (.slice aD nD cD)), (14, .v (.int .i64 f)), (15, .v g.2.1.v), (16, .v Os.nil.v), (17, .v (.slice aK nK cK)), (18, .v (.int .i64 g.1))]) (fun g => [.hp (Hp.whole w), .hp oG.h, .hp oF.h, .box b7 [.int .i64 M, .slice oG.a oG.n oG.c] 24, .box b8 [.int .i64 M', .slice oF.a oF.n oF.c] 24, .hp gA, .hp gD, .hp gK, .hp g.2.1.h])
    (fun g => g.1 ≤ nK ∧ OwnO fV 37 1 g.2.1 g.2.2 ∧ Rds gK g.2.2 ((K.take g.1).filter p1)) (fun g => nK - g.1) (0, Os.nil, []) ⟨Nat.zero_le _, OwnO.nil _ _ _, Rds.nil _⟩ (Ent.mk (fun _ _ h => h.emp) rfl rfl) ?_
  rintro ⟨i, o1, vs⟩ ⟨hi, ho1, hrd⟩
  dsimp only at *
  have hrl := hrd.len
  have hfl := List.length_filter_le p1 (K.take i)
  rw [List.length_take] at hfl
  refine bsplitd (fun hlt => ?_) (fun hge => ?_)
  · have hiK : i < K.length := by omega
    obtain ⟨c1, c2, c3⟩ := hKs _ (List.getElem_mem hiK)
    have st := fil_snoc (p := p1) hiK
    have e1 : p1 K[i] = hanF M' F (ofN K[i]) := by rw [hp1]
    obtain ⟨s, hs⟩ : ∃ s, s = ofN K[i] := ⟨_, rfl⟩
    have kB := hbK hiK
    rw [← hs] at kB c1 c2 e1
    obtain ⟨b, hb⟩ : ∃ b, b = hanF M' F s := ⟨_, rfl⟩
    rw [← hb] at e1
    refine NeedD.cut Unit (fun _ => [(7, .bx 3 0), (8, .bx 4 0), (11, .v (.slice aA nA cA)), (12, .v (.int .i64 e)), (13, .v (.slice aD nD cD)), (14, .v (.int .i64 f)), (15, .v o1.v), (16, .v Os.nil.v), (17, .v (.slice aK nK cK)), (18, .v (.int .i64 i)), (90, .v (.bool b))]) (fun _ => [.hp (Hp.whole w), .hp oG.h, .hp oF.h, .box b7 [.int .i64 M, .slice oG.a oG.n oG.c] 24, .box b8 [.int .i64 M', .slice oF.a oF.n oF.c] 24, .hp gA, .hp gD, .hp gK, .hp o1.h]) (fun _ => True) (NeedD.by_order (cxg _) (.take 0 <| .take 1 <| .take 2 <| .take 3 <| .take 4 <| .run 5 <| .run 6 <| .done) (by kernel_rfl) ?_) ?_
    · refine idx (cxg _) (e := 37) rfl sK i rfl hiK (fun b9 o9 cs hcs hQ hcell => ?_)
      obtain ⟨a3, n3, c3', rfl, hs3⟩ := hQ
      refine ld1 (cxg _) (i := 7) rfl (hcell 0 _ rfl) rfl ?_
      refine callV _ (fun w' hm => kB w' (hs3.mono (encF_mono _) (hm 7 _ rfl))) ?_
      refine ⟨(by repeat first | exact trivial | refine ⟨.inl rfl, ?_⟩ | refine ⟨.inr rfl, ?_⟩), ?_⟩
      refine callV _ (fun w' hm => kT w' _ s rfl (by omega) (sF.mono (encF_mono _) (hm 2 _ rfl))) ?_
      refine ⟨(by repeat first | exact trivial | refine ⟨.inl rfl, ?_⟩ | refine ⟨.inr rfl, ?_⟩), ?_⟩
      rw [← hb]
      exact ⟨(), trivial, Ent.mk (fun _ _ h => h) rfl rfl⟩
    rintro ⟨⟩ _ _
    dsimp only
    refine bsplit (fun hbt => ?_) (fun hbf => ?_)
    · rw [e1, hbt, if_pos rfl] at st
      refine idx (cxg _) (e := 37) rfl sK i rfl hiK (fun b9 o9 cs hcs hQ hcell => ?_)
      obtain ⟨a3, n3, c3', rfl, hs3⟩ := hQ
      refine ld1 (cxg _) (i := 7) rfl (hcell 0 _ rfl) rfl ?_
      intro b96
      refine appO (f := fV) (cxg _) (e := 37) rfl (i := 8) rfl ho1 (j := 9) (.slice a3 n3 c3') rfl rfl rfl rfl (by omega) (fun o2 ho2 => ?_)
      refine nw (by omega) (by omega) ?_
      refine ⟨(i + 1, o2, vs ++ [.slice a3 n3 c3']), ⟨by dsimp only; omega, ho2, ?_⟩, by dsimp only; omega, Ent.mk (fun _ _ h => h.pick [0, 1, 2, 3, 4, 5, 6, 7, 8] rfl rfl) rfl rfl⟩
      dsimp only
      rw [st]
      exact hrd.push ⟨_, _, _, rfl, hs3⟩
    · rw [e1, hbf, if_neg (by decide)] at st
      refine nw (by omega) (by omega) ?_
      exact ⟨(i + 1, o1, vs), ⟨by dsimp only; omega, ho1, by dsimp only; rw [st]; exact hrd⟩, by dsimp only; omega, Ent.mk (fun _ _ h => h) rfl rfl⟩
  rw [List.take_of_length_le (by omega), ← qA] at hrd
  have s1 := OwnO.sl (f := fV) (fun _ => rfl) (by decide) ho1
  refine call (fun w' hm => kC2 w' (sE.mono (encF_mono _) (hm 1 _ rfl))) ?_
  rintro _ _ ⟨aR, nR, cR, gR, rfl, rfl, sR⟩
  have lR := sR.len
  refine NeedL.mk (Nat × Dw.Os × List Value) (fun g => [(7, .bx 3 0), (8, .bx 4 0), (11, .v (.slice aA nA cA)), (12, .v (.int .i64 e)), (13, .v (.slice aD nD cD)), (14, .v (.int .i64 f)), (15, .v o1.v), (16, .v g.2.1.v), (17, .v (.slice aR nR cR)), (19, .v (.int .i64 g.1))]) (fun g => [.hp (Hp.whole w), .hp oG.h, .hp oF.h, .box b7 [.int .i64 M, .slice oG.a oG.n oG.c] 24, .box b8 [.int .i64 M', .slice oF.a oF.n oF.c] 24, .hp gA, .hp gD, .hp gK, .hp o1.h, .hp gR, .hp g.2.1.h])
    (fun g => g.1 ≤ nR ∧ OwnO fV 37 1 g.2.1 g.2.2 ∧ Rds gR g.2.2 ((R.take g.1).filter p2)) (fun g => nR - g.1) (0, Os.nil, []) ⟨Nat.zero_le _, OwnO.nil _ _ _, Rds.nil _⟩ (Ent.mk (fun _ _ h => h.emp) rfl rfl) ?_
  rintro ⟨i, o2, ws⟩ ⟨hi, ho2, hrd2⟩
  dsimp only at *
  have hrl2 := hrd2.len
  have hfl2 := List.length_filter_le p2 (R.take i)
  rw [List.length_take] at hfl2
  refine bsplitd (fun hlt => ?_) (fun hge => ?_)
  · have hiR : i < R.length := by omega
    obtain ⟨c1, c2, c3⟩ := hRs _ (List.getElem_mem hiR)
    have st := fil_snoc (p := p2) hiR
    have e1 : p2 R[i] = (hanF M' F (ofN R[i]) && hanF M' F (2 ^ M - 1 - ofN R[i])) := by rw [hp2]
    obtain ⟨s, hs⟩ : ∃ s, s = ofN R[i] := ⟨_, rfl⟩
    have kB := hbR hiR
    rw [← hs] at kB c1 c2 e1
    obtain ⟨b, hb⟩ : ∃ b, b = hanF M' F s := ⟨_, rfl⟩
    obtain ⟨P, hP⟩ : ∃ P : Nat, P = 2 ^ M := ⟨_, rfl⟩
    obtain ⟨d, hd⟩ : ∃ b, b = hanF M' F (P - 1 - s) := ⟨_, rfl⟩
    rw [← hP, ← hb, ← hd] at e1
    rw [← hP] at c1
    refine idx (cxg _) (e := 37) rfl sR i rfl hiR (fun b9 o9 cs hcs hQ hcell => ?_)
    obtain ⟨a3, n3, c3', rfl, hs3⟩ := hQ
    refine ld1 (cxg _) (i := 9) rfl (hcell 0 _ rfl) rfl ?_
    refine callV _ (fun w' hm => kB w' (hs3.mono (encF_mono _) (hm 9 _ rfl))) ?_
    refine NeedD.cut Unit (fun _ => [(7, .bx 3 0), (8, .bx 4 0), (11, .v (.slice aA nA cA)), (12, .v (.int .i64 e)), (13, .v (.slice aD nD cD)), (14, .v (.int .i64 f)), (15, .v o1.v), (16, .v o2.v), (17, .v (.slice aR nR cR)), (19, .v (.int .i64 i)), (123, .v (.bool (b && d)))]) (fun _ => [.hp (Hp.whole w), .hp oG.h, .hp oF.h, .box b7 [.int .i64 M, .slice oG.a oG.n oG.c] 24, .box b8 [.int .i64 M', .slice oF.a oF.n oF.c] 24, .hp gA, .hp gD, .hp gK, .hp o1.h, .hp gR, .hp o2.h]) (fun _ => True) (NeedD.by_order (cxg _) (.take 0 <| .take 1 <| .run 2 <| .take 3 <| .take 4 <| .take 5 <| .take 6 <| .take 7 <| .take 8 <| .take 9 <| .take 10 <| .run 11 <| .take 12 <| .done) (by kernel_rfl) ?_) ?_
    · refine callV _ (fun w' hm => kT w' _ s rfl (by omega) (sF.mono (encF_mono _) (hm 2 _ rfl))) ?_
      refine ⟨(by repeat first | exact trivial | refine ⟨.inl rfl, ?_⟩ | refine ⟨.inr rfl, ?_⟩), ?_⟩
      rw [← hb]
      cases b with
      | true =>
        refine qShlI M rfl rfl (by omega) ?_
        rw [← hP]
        refine nw (by omega) (by omega) ?_
        refine nw (by omega) (by omega) ?_
        refine callV _ (fun w' hm => kT w' _ (P - 1 - s) (by omega) (by omega) (sF.mono (encF_mono _) (hm 2 _ rfl))) ?_
        refine ⟨(by repeat first | exact trivial | refine ⟨.inl rfl, ?_⟩ | refine ⟨.inr rfl, ?_⟩), ?_⟩
        rw [← hd]
        exact ⟨(), trivial, Ent.mk (fun _ _ h => h) rfl rfl⟩
      | false =>
        refine ⟨(by repeat first | exact trivial | refine ⟨.inl rfl, ?_⟩ | refine ⟨.inr rfl, ?_⟩), ?_⟩
        exact ⟨(), trivial, Ent.mk (fun _ _ h => h) rfl rfl⟩
    rintro ⟨⟩ _ _
    dsimp only
    refine bsplit (fun hbt => ?_) (fun hbf => ?_)
    · rw [e1, hbt, if_pos rfl] at st
      refine idx (cxg _) (e := 37) rfl sR i rfl hiR (fun b9 o9 cs hcs hQ hcell => ?_)
      obtain ⟨a4, n4, c4, rfl, hs4⟩ := hQ
      refine ld1 (cxg _) (i := 9) rfl (hcell 0 _ rfl) rfl ?_
      intro b129
      refine appO (f := fV) (cxg _) (e := 37) rfl (i := 10) rfl ho2 (j := 11) (.slice a4 n4 c4) rfl rfl rfl rfl (by omega) (fun o3 ho3 => ?_)
      refine nw (by omega) (by omega) ?_
      refine ⟨(i + 1, o3, ws ++ [.slice a4 n4 c4]), ⟨by dsimp only; omega, ho3, ?_⟩, by dsimp only; omega, Ent.mk (fun _ _ h => h.pick [0, 1, 2, 3, 4, 5, 6, 7, 8, 9, 10] rfl rfl) rfl rfl⟩
      dsimp only
      rw [st]
      exact hrd2.push ⟨_, _, _, rfl, hs4⟩
    · rw [e1, hbf, if_neg (by decide)] at st
      refine nw (by omega) (by omega) ?_
      exact ⟨(i + 1, o2, ws), ⟨by dsimp only; omega, ho2, by dsimp only; rw [st]; exact hrd2⟩, by dsimp only; omega, Ent.mk (fun _ _ h => h) rfl rfl⟩
  rw [List.take_of_length_le (by omega), ← qD] at hrd2
  have s2 := OwnO.sl (f := fV) (fun _ => rfl) (by decide) ho2
  have hAr : ∀ x ∈ A, x.length < 1000000000 := fun x hx => by rw [qA] at hx; have := hKr x ((List.mem_filter.1 hx).1); omega
  have hDr : ∀ x ∈ D, x.length < 1000000000 := fun x hx => by rw [qD] at hx; have := hRr x ((List.mem_filter.1 hx).1); omega
  have hAl : A.length ≤ K.length := by rw [qA]; exact List.length_filter_le _ _
  have hDl : D.length ≤ R.length := by rw [qD]; exact List.length_filter_le _ _
  refine hideQ (fun q' hq' => ?_)
  refine callV _ (fun w' hm => sameSets_spec w' (sA.mono (encS_mono (encF_mono _) _) (hm 5 _ rfl)) ((hrd.mono (hm 7 _ rfl)).slW (s1.mono (encF_mono _) (hm 8 _ rfl))) (by omega) hAr) ?_
  refine dtrue rfl ?_
  refine dtrue qe ?_
  refine callV _ (fun w' hm => sameSets_spec w' (sD.mono (encS_mono (encF_mono _) _) (hm 6 _ rfl)) ((hrd2.mono (hm 9 _ rfl)).slW (s2.mono (encF_mono _) (hm 10 _ rfl))) (by omega) hDr) ?_
  refine dtrue rfl ?_
  refine hq' _ _ ?_
  exact ⟨[], ⟨by rw [decide_eq_true qf], rfl⟩, fun w' h => h.pick [0] rfl rfl⟩
end Go.Proofs.YtbcjdjlihhlkaaaGreatDoor
