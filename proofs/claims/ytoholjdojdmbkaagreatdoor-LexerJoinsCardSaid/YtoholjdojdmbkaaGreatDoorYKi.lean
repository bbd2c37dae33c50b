/- The law LexerFollows. Each theorem's premises are its own. -/
import Derived.Test.YtoholjdojdmbkaaGreatDoorXL
import Derived.Test.YtoholjdojdmbkaaGreatDoorXK
namespace Go.Proofs.YtoholjdojdmbkaaGreatDoor
open Go Go.RowKit Go.Dw
def cntN (s : Byts) (k : Nat) : Nat := ((s.take k).filter (fun c => decide (c = 10))).length
theorem cnt_next {s : Byts} {k : Nat} (h : k < s.length) : cntN s (k + 1) = cntN s k + if s.getD k 0 = 10 then 1 else 0 := by
  unfold cntN
  have : s.take (k + 1) = s.take k ++ [s.getD k 0] := by
    rw [List.take_add_one, List.getElem?_eq_getElem h, List.getD_eq_getElem?_getD, List.getElem?_eq_getElem h]; rfl
  rw [this, List.filter_append, List.length_append]
  congr 1
  by_cases g : s.getD k 0 = 10
  · rw [if_pos g, g]; rfl
  · rw [if_neg g, List.filter_cons_of_neg (by simpa using g)]; rfl
theorem cnt_le (s : Byts) (k : Nat) : cntN s k ≤ k := by
  unfold cntN
  have h1 := List.length_filter_le (fun c => decide (c = (10 : UInt8))) (s.take k)
  have h2 : (s.take k).length ≤ k := List.length_take_le _ _
  omega
theorem sca_err {t : Byts} (he : (scaF t).2.2.2 ≠ 0) : (scaF t).1 = [] := by
  unfold scaF at he ⊢
  split
  · rfl
  · rename_i hl
    rw [if_neg hl, ← col_emi] at he
    rw [← col_emi]
    obtain ⟨pre, last, h1, h2, h3, h4⟩ := emi_shape (t.length + 1) t (1, 1)
    rw [h1] at he ⊢
    by_cases h : last.2 = 0
    · have := col_ok (pre ++ [last]) [] [] (fun x hx => by
        rcases List.mem_append.1 hx with hx | hx
        · exact (h2 x hx).1
        · rw [List.mem_singleton.1 hx]; exact h)
      rw [List.append_nil] at this
      rw [this] at he
      exact absurd rfl he
    · have := col_bad (pre := pre) (x := last) (fun x hx => (h2 x hx).1) h []
      rw [List.append_nil] at this
      rw [this]
theorem sca_line (t : Byts) (ht : t.length ≤ 200) (k : Nat) (h : k < (scaF t).1.length) : (scaF t).1[k].2.2.1 < 1000000 := by
  by_cases he : (scaF t).2.2.2 = 0
  · have hp := sca_pos (s := t) (by omega) he
    have key : ∀ (L : List Tok) (i : Nat), PosL t i L → ∀ k (h : k < L.length), L[k].2.2.1 < 1000000 := by
      intro L
      induction L with
      | nil => intro i _ k h; cases h
      | cons x r ih =>
        intro i hP k h
        obtain ⟨j, _, hj, hpl, _, _, _, _, hr⟩ := hP
        cases k with
        | zero =>
          have := pasN_le (1, 1) (t.take j)
          rw [List.length_take] at this
          have e : x.2.2.1 = (plA t j).1 := congrArg Prod.fst hpl
          show x.2.2.1 < _
          rw [e]
          unfold plA
          have := this.1
          dsimp only at this
          omega
        | succ k => exact ih _ hr k (by simpa using h)
    exact key _ _ hp k h
  · have : (scaF t).1 = [] := sca_err he
    rw [this] at h; cases h
def shT (n : Nat) (x : Tok) : Tok := (x.1, x.2.1, x.2.2.1 + n, x.2.2.2)
set_option maxRecDepth 20000 in
set_option maxHeartbeats 2000000 in
theorem follows_ok (s t : Byts) (w : World) (hT : TabS (Hp.whole w)) : CallsE Tryz.prog 4 #[.string (bs s), .string (bs t)] w (RetV w (.bool true)) := by
  have hz := bs_size s
  have hzt := bs_size t
  have kn := fun (w' : World) hm => known35_spec w' (hT.mono (hm : (Hp.whole w).le (Hp.whole w')))
  refine enter (X := cx 121) (cxg _) (args := [.string (bs s), .string (bs t)]) [.tmp 4] Tryz.func4 rfl rfl rfl rfl rfl ?_
  refine callV _ (fun w' hm => kn w' (hm 0 _ rfl).whole) ?_
  refine bsplitd (fun h1 => ?_) (fun h1 => ?_)
  · refine callV _ (fun w' hm => kn w' (hm 0 _ rfl).whole) ?_
    exact ⟨[], ⟨rfl, rfl⟩, fun w' h => h.pick [0] rfl rfl⟩
  refine bsplitd (fun h2 => ?_) (fun h2 => ?_)
  · refine callV _ (fun w' hm => kn w' (hm 0 _ rfl).whole) ?_
    exact ⟨[], ⟨rfl, rfl⟩, fun w' h => h.pick [0] rfl rfl⟩
  have hs : s.length ≤ 200 := by omega
  have ht : t.length ≤ 200 := by omega
  have hls := sca_len s
  have hlt := sca_len t
  have hss := sca_shape s
  have hst := sca_shape t
  have hfo := fun h1 h2 => follows (s := s) (t := t) (by omega) (by omega) h1 h2
  have hA := fun (w' : World) (hT : TabS (Hp.whole w')) => Scan_spec s w' hT
  have hB := fun (w' : World) (hT : TabS (Hp.whole w')) => Scan_spec t w' hT
  have hC := fun (w' : World) (hT : TabS (Hp.whole w')) => Scan_spec (s ++ 10 :: t) w' hT
  have hcc : (s.filter (fun c => decide (c = 10))).length = cntN s s.length := by unfold cntN; rw [List.take_length]
  rw [hcc] at hfo
  have hbnd : ∀ k (h : k < (scaF t).1.length), (scaF t).1[k].2.2.1 < 1000000 := fun k h => sca_line t ht k h
  generalize scaF s = R1 at *
  generalize scaF t = R2 at *
  generalize scaF (s ++ 10 :: t) = R3 at *
  obtain ⟨L1, x1, y1, e1⟩ := R1
  obtain ⟨L2, x2, y2, e2⟩ := R2
  obtain ⟨L3, x3, y3, e3⟩ := R3
  dsimp only at hA hB hC hls hlt hss hst hfo
  refine call (fun w' hm => hA w' (hT.mono (hm 0 _ rfl).whole)) ?_
  rintro _ _ ⟨⟨a1, n1, c1, g1⟩, rfl, rfl, hO1⟩
  have hS1 := OwnO.sl (f := fT) (fun _ => rfl) (by decide) hO1
  have hn1 : n1 = L1.length := hS1.len
  refine hideQ (fun _ kz => kz _ _ ?_)
  refine normS [.hp (Hp.whole w), .hp g1] rfl ?_
  refine call (fun w' hm => hB w' (hT.mono (hm 0 _ rfl).whole)) ?_
  rintro _ _ ⟨⟨a2, n2, c2, g2⟩, rfl, rfl, hO2⟩
  have hS2 := OwnO.sl (f := fT) (fun _ => rfl) (by decide) hO2
  have hn2 : n2 = L2.length := hS2.len
  refine hideQ (fun _ kz => kz _ _ ?_)
  refine normS [.hp (Hp.whole w), .hp g1, .hp g2] rfl ?_
  show wops _ _ _ _ _ _
  refine w1k (by rfl) fun K hK => ?_
  refine hK _ _ ?_
  refine w1k (by rfl) fun K hK => ?_
  refine hK _ _ ?_
  refine w1k (by rfl) fun K hK => ?_
  refine hK _ _ ?_
  refine wGSk (by rfl) (by rfl) (by rfl) (fun h2_ K hK => ?_) (fun h2_ K hK => ?_)
  · refine hK _ _ ?_
    refine wGYk (by rfl) (by rfl) (by rfl) fun K hK => ?_
    refine hK _ _ ?_
    refine w1k (by rfl) fun K hK => ?_
    refine hK _ _ ?_
    refine w1k (by rfl) fun K hK => ?_
    refine hK _ _ ?_
    refine wGSk (by rfl) (by rfl) (by rfl) (fun h6_ K hK => ?_) (fun h6_ K hK => ?_)
    · refine hK _ _ ?_
      refine wGYk (by rfl) (by rfl) (by rfl) fun K hK => ?_
      refine hK _ _ ?_
      refine wGYk (by rfl) (by rfl) (by rfl) fun K hK => ?_
      refine hK _ _ ?_
      refine w1k (by rfl) fun K hK => ?_
      refine hK _ _ ?_
      refine wnil ?_
      have he1 : e1 = 0 := Classical.not_not.1 (of_decide_eq_false h2_)
      have he2 : e2 = 0 := Classical.not_not.1 (of_decide_eq_false h6_)
      have hp1 := (hss.1 he1).pos
      refine wcond (by rfl) (fun h9 => by have h9 : ((n1 : Nat) : Int) = 0 := of_decide_eq_true h9; omega) (fun _ => ?_)
      subst he1
      subst he2
      obtain ⟨l, q, hr1, hr3⟩ := hfo rfl rfl
      simp only [Prod.mk.injEq] at hr1 hr3
      obtain ⟨rfl, rfl, rfl, -⟩ := hr1
      obtain ⟨rfl, rfl, rfl, rfl⟩ := hr3
      refine NeedL.mk Nat (fun k => [(0, .v (.string (bs s))), (1, .v (.string (bs t))), (5, .v (.slice a1 n1 c1)), (9, .v (.slice a2 n2 c2)), (13, .v (.int .i64 (1 + cntN s k : Nat))), (14, .v (.int .i64 k))]) (fun _ => [.hp (Hp.whole w), .hp g1, .hp g2])
        (fun k => k ≤ s.length) (fun k => s.length - k) 0 (Nat.zero_le _) (Ent.mk (fun _ _ h => h) rfl rfl) ?_
      rintro k hk
      dsimp only at *
      have hcl := cnt_le s k
      refine bsplitd (fun h4 => ?_) (fun h4 => ?_)
      · have hk1 : k < s.length := by omega
        have hcn := cnt_next hk1
        refine qIdxL (cxg _) rfl rfl k rfl hk1 ?_
        generalize s.getD k 0 = d at *
        refine bsplitd (fun h5 => ?_) (fun h5 => ?_)
        · have h5 : d = 10 := byte_is (k := 10) rfl h5
          rw [if_pos h5] at hcn
          refine nwEq (y := ((1 + cntN s (k + 1) : Nat) : Int)) (by omega) (by omega) (by omega) ?_
          refine nw (by omega) (by omega) ?_
          exact ⟨k + 1, hk1, by omega, Ent.mk (fun _ _ h => h) rfl rfl⟩
        · have h5 : d ≠ 10 := byte_ne (k := 10) rfl h5
          rw [if_neg h5, Nat.add_zero] at hcn
          refine nw (by omega) (by omega) ?_
          exact ⟨k + 1, hk1, by omega, Ent.mk (fun _ _ h => h) (by rw [hcn]; rfl) (by rw [hcn]; rfl)⟩
      · have hks : k = s.length := by omega
        subst hks
        have hll : (l ++ [q]).length = l.length + 1 := by simp
        intro b78
        refine nwEq (y := ((l.length : Nat) : Int)) (by omega) (by omega) (by omega) ?_
        refine slS (cxg _) (e := 32) (h := g1) rfl hS1 0 l.length (.inl ⟨rfl, rfl⟩) (.inr ⟨_, _, rfl, rfl⟩) (by omega) (by omega) (fun a25 hs25 => ?_)
        have e25 : ((l ++ [q]).take l.length).drop 0 = l := by rw [List.drop_zero, List.take_left' rfl]
        rw [e25] at hs25
        refine app0 (cxg _) (f := fT) (e := 32) rfl (fun _ => rfl) (fun _ => rfl) (k := 1) rfl hs25 rfl (by omega) fun o' ho' => ?_
        refine NeedL.mk (Nat × Dw.Os) (fun g => [(0, .v (.string (bs s))), (1, .v (.string (bs t))), (9, .v (.slice a2 n2 c2)), (13, .v (.int .i64 (1 + cntN s s.length : Nat))), (15, .v g.2.v), (16, .v (.int .i64 g.1))]) (fun g => [.hp (Hp.whole w), .hp g2, .hp g.2.h])
          (fun g => g.1 ≤ L2.length ∧ OwnO fT 32 4 g.2 (l ++ (L2.take g.1).map (shT (1 + cntN s s.length)))) (fun g => L2.length - g.1) (0, o') ⟨Nat.zero_le _, by dsimp only; rw [List.take_zero, List.map_nil, List.append_nil]; exact ho'⟩ (Ent.mk (fun _ _ h => h.pick [0, 2, 4] rfl rfl) rfl rfl) ?_
        rintro ⟨k, o⟩ ⟨hk, hO⟩
        dsimp only at *
        refine bsplitd (fun h4 => ?_) (fun h4 => ?_)
        · have hk2 : k < L2.length := by omega
          have hbd := hbnd k hk2
          refine idx (cxg _) (e := 32) rfl hS2 k rfl hk2 (fun b9 o9 cs hcs hR hcell => ?_)
          subst hR
          refine ldn (cxg _) (i := 1) rfl hcell rfl ?_
          intro b17
          refine nwEq (y := ((L2[k].2.2.1 + (1 + cntN s s.length) : Nat) : Int)) (by omega) (by omega) (by omega) ?_
          intro b102
          refine appO (f := fT) (cxg _) (e := 32) rfl (i := 2) rfl hO (j := 4) (shT (1 + cntN s s.length) L2[k]) rfl rfl rfl rfl (by rw [List.length_append, List.length_map, List.length_take]; omega) (fun o2 ho2 => ?_)
          refine nw (by omega) (by omega) ?_
          exact ⟨(k + 1, o2), ⟨hk2, by dsimp only; rw [List.take_add_one, List.getElem?_eq_getElem hk2, Option.toList_some, List.map_append, ← List.append_assoc]; exact ho2⟩, by dsimp only; omega, Ent.mk (fun _ _ h => h.pick [0, 1, 2] rfl rfl) rfl rfl⟩
        · have hk2 : k = L2.length := by omega
          subst hk2
          rw [List.take_length] at hO
          have hSo := OwnO.sl (f := fT) (fun _ => rfl) (by decide) hO
          refine qAdd (ty := 9) (a := s) (b := [10]) (by simp only [List.length_cons, List.length_nil]; omega) ?_
          refine qAdd (ty := 9) (a := s ++ [10]) (b := t) (by simp only [List.length_append, List.length_cons, List.length_nil]; omega) ?_
          rw [List.append_assoc]
          refine call (fun w' hm => hC w' (hT.mono (hm 0 _ rfl).whole)) ?_
          rintro _ _ ⟨⟨a3, n3, c3, g3⟩, rfl, rfl, hO3⟩
          have hS3 := OwnO.sl (f := fT) (fun _ => rfl) (by decide) hO3
          refine hideQ (fun _ kz => kz _ _ ?_)
          refine normS [.hp (Hp.whole w), .hp g2, .hp o.h, .hp g3] rfl ?_
          show wops _ _ _ _ _ _
          refine w1k (by rfl) fun K hK => ?_
          refine hK _ _ ?_
          refine w1k (by rfl) fun K hK => ?_
          refine hK _ _ ?_
          refine w1k (by rfl) fun K hK => ?_
          refine hK _ _ ?_
          refine wGSk (by rfl) (by rfl) (by rfl) (fun h2_ K hK => ?_) (fun h2_ K hK => ?_)
          · refine hK _ _ ?_
            refine wGYk (by rfl) (by rfl) (by rfl) fun K hK => ?_
            refine hK _ _ ?_
            refine wGYk (by rfl) (by rfl) (by rfl) fun K hK => ?_
            refine callV _ (fun w' hm => same35_spec w' (hS3.mono (encF_mono _) (hm 3 _ rfl).whole) (hSo.mono (encF_mono _) (hm 2 _ rfl).whole) (by rw [List.length_append, List.length_map]; omega)) ?_
            refine hK _ _ ?_
            refine w1k (by rfl) fun K hK => ?_
            refine hK _ _ ?_
            refine w1k (by rfl) fun K hK => ?_
            refine hK _ _ ?_
            refine wnil ?_
            exact ⟨[], ⟨congrArg Value.bool (decide_eq_true rfl), rfl⟩, fun w' h => h.pick [0] rfl rfl⟩
          · exact absurd rfl (of_decide_eq_false h2_)
    · refine hK _ _ ?_
      refine wGNk (by rfl) (by rfl) (by rfl) fun K hK => ?_
      refine hK _ _ ?_
      refine wGNk (by rfl) (by rfl) (by rfl) fun K hK => ?_
      refine hK _ _ ?_
      refine w1k (by rfl) fun K hK => ?_
      refine hK _ _ ?_
      refine wnil ?_
      have h2_ := of_decide_eq_false h2_
      have h6_ := of_decide_eq_true h6_
      refine bsplitd (fun h9 => absurd h9 h2_) (fun _ => ?_)
      exact ⟨[], ⟨by rw [decide_eq_true h6_], rfl⟩, fun w' h => h.pick [0] rfl rfl⟩
  · refine hK _ _ ?_
    refine wGNk (by rfl) (by rfl) (by rfl) fun K hK => ?_
    refine hK _ _ ?_
    refine w1k (by rfl) fun K hK => ?_
    refine hK _ _ ?_
    refine w1k (by rfl) fun K hK => ?_
    refine hK _ _ ?_
    refine wGNk (by rfl) (by rfl) (by rfl) fun K hK => ?_
    refine hK _ _ ?_
    refine wGNk (by rfl) (by rfl) (by rfl) fun K hK => ?_
    refine hK _ _ ?_
    refine wGNk (by rfl) (by rfl) (by rfl) fun K hK => ?_
    refine hK _ _ ?_
    refine w1k (by rfl) fun K hK => ?_
    refine hK _ _ ?_
    refine wnil ?_
    have h2_ := of_decide_eq_true h2_
    refine bsplitd (fun h9 => ?_) (fun h9 => absurd h2_ h9)
    exact ⟨[], ⟨rfl, rfl⟩, fun w' h => h.pick [0] rfl rfl⟩
end Go.Proofs.YtoholjdojdmbkaaGreatDoor
