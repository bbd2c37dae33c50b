/- The law LexerJoins. Each theorem's premises are its own. -/
import Derived.Test.YtoholjdojdmbkaaGreatDoorYN7
import Derived.Test.YtoholjdojdmbkaaGreatDoorYN4
namespace Go.Proofs.YtoholjdojdmbkaaGreatDoor
open Go Go.RowKit Go.Dw
theorem posL_len {s : Byts} : ∀ (L : List Tok) (i : Nat), PosL s i L → ∀ t ∈ L, (txF t.1 t.2.1).length ≤ s.length
  | [], _, _, t, ht => by cases ht
  | x :: L, i, h, t, ht => by
    obtain ⟨j, h1, h2, h3, h4, h5, h6, h7, h8⟩ := h
    rcases List.mem_cons.1 ht with rfl | ht
    · omega
    · exact posL_len L (j + 1) h8 t ht
theorem txF_ge (k : Int) (x : Byts) : x.length ≤ (txF k x).length := by
  unfold txF
  split
  · show x.length ≤ (escF x ++ [34]).length + 1
    rw [List.length_append, esc_spN]; omega
  · exact Nat.le_refl _
set_option maxRecDepth 20000 in
set_option maxHeartbeats 2000000 in
theorem joins_ok {a : Option Addr} {n c : Nat} {M : List TokZ} (s : Byts) (w : World) (hT : TabS (Hp.whole w)) (hL : Sl (encF fTz) 4 (Hp.whole w) a n c M) : CallsE Tryz.prog 11 #[.slice a n c, .string (bs s)] w (RetV w (.bool true)) := by
  have hzs := bs_size s
  have hn := hL.len
  have kn := fun (w' : World) (hm : (Hp.whole w).In w') => known35_spec w' (hT.mono hm.whole)
  refine enter (X := cx 96) (cxg _) (args := [.slice a n c, .string (bs s)]) [.tmp 4] Tryz.func11 rfl rfl rfl rfl rfl ?_
  refine callV _ (fun w' hm => kn w' (hm 0 _ rfl)) ?_
  refine bsplitd (fun h2 => ?_) (fun h2 => ?_)
  · refine callV _ (fun w' hm => kn w' (hm 0 _ rfl)) ?_
    exact ⟨[], ⟨rfl, rfl⟩, fun w' h => h.pick [0] rfl rfl⟩
  refine bsplitd (fun h3 => ?_) (fun h3 => ?_)
  · refine callV _ (fun w' hm => kn w' (hm 0 _ rfl)) ?_
    exact ⟨[], ⟨rfl, rfl⟩, fun w' h => h.pick [0] rfl rfl⟩
  have hs : s.length ≤ 300 := by omega
  have hn2 : M.length ≤ 20 := by omega
  refine NeedL.mk Nat (fun i => [(0, .v (.slice a n c)), (1, .v (.string (bs s))), (5, .v (.int .i64 i))]) (fun _ => [.hp (Hp.whole w)])
    (fun i => i ≤ M.length ∧ ∀ j (h : j < M.length), j < i → M[j].2.1.length ≤ 50) (fun i => M.length - i) 0 ⟨Nat.zero_le _, fun j _ hj => absurd hj (Nat.not_lt_zero _)⟩ (Ent.mk (fun _ _ h => h) rfl rfl) ?_
  rintro i ⟨hi, hb⟩
  dsimp only at hi hb ⊢
  refine hidWP (fun q' hq' => ?_)
  refine bsplitd (fun h4 => ?_) (fun h4 => ?_)
  · have hi1 : i < M.length := by omega
    refine idx (cxg _) (e := 32) rfl hL i rfl hi1 (fun b9 o9 cs hcs hR hcell => ?_)
    subst hR
    refine ld1 (cxg _) (i := 0) rfl (hcell 1 _ rfl) rfl ?_
    have hsz := bs_size M[i].2.1
    refine bsplitd (fun h5 => ?_) (fun h5 => ?_)
    · refine hq' _ _ _ ?_
      exact ⟨[], ⟨rfl, rfl⟩, fun w' h => h.pick [0] rfl rfl⟩
    · refine nw (by omega) (by omega) ?_
      refine hq' _ _ _ ?_
      have hb2 : ∀ j (h : j < M.length), j < i + 1 → M[j].2.1.length ≤ 50 := fun j h hj => by
        rcases Nat.lt_or_ge j i with g | g
        · exact hb j h g
        · have e : j = i := by omega
          subst e; omega
      exact ⟨i + 1, ⟨hi1, hb2⟩, by (try dsimp only); omega, Ent.mk (fun _ _ h => h) rfl rfl⟩
  have hi2 : i = M.length := by omega
  subst hi2
  have hM : ∀ t ∈ M, t.2.1.length ≤ 50 := fun t ht => by
    obtain ⟨j, hj, rfl⟩ := List.mem_iff_getElem.1 ht
    exact hb j hj hj
  have hj1 := fun (w' : World) (hm : (Hp.whole w).In w') => Join_spec (fun t ht => Nat.le_trans (hM t ht) (by decide)) (by omega) w' (hT.mono hm.whole) (hL.mono (encF_mono _) hm)
  have hj2 := fun (w' : World) (hm : (Hp.whole w).In w') => join35_spec hM hn2 w' (hL.mono (encF_mono _) hm)
  generalize jonK (M.map kz) = J at *
  obtain ⟨J1, J2⟩ := J
  have hps := fun h => sca_pos (s := s) (by omega) h
  have hen := sca_shape s
  have hsl := sca_len s
  have hjl := fun h => join_law (s := s) (by omega) h
  have hSc := fun (w' : World) (hm : (Hp.whole w).In w') => Scan_spec s w' (hT.mono hm.whole)
  generalize scaF s = T at *
  obtain ⟨L, f1, f2, f⟩ := T
  dsimp only at hSc hps hen hj1 hj2 hsl hjl
  refine hq' _ _ _ ?_
  refine callV _ (fun w' hm => hj1 w' (hm 0 _ rfl)) ?_
  refine callV _ (fun w' hm => hj2 w' (hm 0 _ rfl)) ?_
  refine hideQ (fun _ kzz => kzz _ _ ?_)
  show wops _ _ _ _ _ _
  refine w1k (by rfl) fun K hK => ?_
  refine hK _ _ ?_
  refine w1k (by rfl) fun K hK => ?_
  refine hK _ _ ?_
  refine w1k (by rfl) fun K hK => ?_
  refine qNeL ?_
  refine hK _ _ ?_
  refine w1k (by rfl) fun K hK => ?_
  refine hK _ _ ?_
  refine wGSk (by rfl) (by rfl) (by rfl) (fun h3_ K hK => ?_) (fun h3_ K hK => ?_)
  · refine hK _ _ ?_
    refine wGYk (by rfl) (by rfl) (by rfl) fun K hK => ?_
    refine hK _ _ ?_
    refine wGYk (by rfl) (by rfl) (by rfl) fun K hK => ?_
    refine hK _ _ ?_
    refine w1k (by rfl) fun K hK => ?_
    refine hK _ _ ?_
    refine wnil ?_
    refine wcond (by rfl) (fun h9 => ?_) (fun h9 => ?_)
    · exact absurd rfl (of_decide_eq_true h9)
    · refine call (fun w' hm => hSc w' (hm 0 _ rfl)) ?_
      rintro _ _ ⟨oL, rfl, rfl, hoL⟩
      have hLn := hoL.len
      refine bsplitd (fun h6 => ?_) (fun h6 => ?_)
      · exact ⟨[], ⟨rfl, rfl⟩, fun w' h => h.pick [0] rfl rfl⟩
      have hf : f = 0 := Classical.byContradiction h6
      have hps := hps hf
      obtain ⟨hq1, hq2, hq3⟩ := hjl hf
      have hLx : ∀ t ∈ L.map toZ, t.2.1.length ≤ 400 := fun t ht => by
        obtain ⟨y, hy, rfl⟩ := List.mem_map.1 ht
        have h1 := posL_len L 0 hps y hy
        have h2 := txF_ge y.1 y.2.1
        show y.2.1.length ≤ 400
        omega
      have hoS := slZ (OwnO.sl (f := fT) (sz := 4) (fun _ => rfl) (by decide) hoL)
      have hj3 := fun (w' : World) (hm : (Hp.whole w).In w') (hm2 : oL.h.In w') => Join_spec hLx (by rw [List.length_map]; omega) w' (hT.mono hm.whole) (hoS.mono (encF_mono _) hm2)
      rw [map_kz, ← jonF_K] at hj3
      have hSu := fun (w' : World) (hm : (Hp.whole w).In w') => Scan_spec (jonF L).1 w' (hT.mono hm.whole)
      generalize scaF (jonF L).1 = T2 at *
      obtain ⟨L2, g1, g2, g⟩ := T2
      generalize jonF L = J3 at *
      obtain ⟨u, e3⟩ := J3
      dsimp only at hSu hq1 hq2 hq3 hj3
      subst hq1 hq2
      refine callV _ (fun w' hm => hj3 w' (hm 0 _ rfl) (hm 1 _ rfl)) ?_
      refine call (fun w' hm => hSu w' (hm 0 _ rfl)) ?_
      rintro _ _ ⟨oU, rfl, rfl, hoU⟩
      have hUn := hoU.len
      have hoV := slZ (OwnO.sl (f := fT) (sz := 4) (fun _ => rfl) (by decide) hoU)
      have hul : L2.length = L.length := by have := congrArg List.length hq3; rwa [List.length_map, List.length_map] at this
      refine hideQ (fun _ kzz => kzz _ _ ?_)
      refine normS [.hp (Hp.whole w), .hp oL.h, .hp oU.h] rfl ?_
      show wops _ _ _ _ _ _
      refine w1k (by rfl) fun K hK => ?_
      refine hK _ _ ?_
      refine w1k (by rfl) fun K hK => ?_
      refine hK _ _ ?_
      refine w1k (by rfl) fun K hK => ?_
      refine hK _ _ ?_
      refine wGYk (by rfl) (by rfl) (by rfl) fun K hK => ?_
      refine hK _ _ ?_
      refine wGYk (by rfl) (by rfl) (by rfl) fun K hK => ?_
      refine hK _ _ ?_
      refine w1k (by rfl) fun K hK => ?_
      refine hK _ _ ?_
      refine w1k (by rfl) fun K hK => ?_
      refine hK _ _ ?_
      refine wGYk (by rfl) (by rfl) (by rfl) fun K hK => ?_
      refine hK _ _ ?_
      refine wGYk (by rfl) (by rfl) (by rfl) fun K hK => ?_
      refine hK _ _ ?_
      refine wGYk (by rfl) (by rfl) (by rfl) fun K hK => ?_
      refine callV _ (fun w' hm => alike35_spec w' (hoV.mono (encF_mono _) (hm 2 _ rfl)) (hoS.mono (encF_mono _) (hm 1 _ rfl)) (by rw [List.length_map]; omega)) ?_
      refine hK _ _ ?_
      refine w1k (by rfl) fun K hK => ?_
      refine hK _ _ ?_
      refine w1k (by rfl) fun K hK => ?_
      refine hK _ _ ?_
      refine wnil ?_
      exact ⟨[], ⟨congrArg Value.bool (decide_eq_true (by rw [map_kz, map_kz]; exact hq3)), rfl⟩, fun w' h => h.pick [0] rfl rfl⟩
  · exact absurd rfl (of_decide_eq_true h3_)
end Go.Proofs.YtoholjdojdmbkaaGreatDoor
