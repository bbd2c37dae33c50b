/- The law LexerQuotes. Each theorem's premises are its own. -/
import Derived.Test.YtoholjdojdmbkaaGreatDoorXT
import Derived.Test.YtoholjdojdmbkaaGreatDoorXK
import Derived.Test.YtoholjdojdmbkaaGreatDoorXP
import Derived.Test.YtoholjdojdmbkaaGreatDoorXJ
namespace Go.Proofs.YtoholjdojdmbkaaGreatDoor
open Go Go.RowKit Go.Dw
theorem unp_iff (c : UInt8) : unpB c = decide (badC c) := by
  unfold unpB unpN badC
  by_cases h1 : c.toNat < 32 <;> by_cases h2 : 126 < c.toNat <;> simp [h1, h2]
theorem rig_of {s : Byts} (h : s.any unpB = false) : rigB s := fun c hc hb => by
  rw [List.any_eq_false] at h
  exact h c hc (by rw [unp_iff]; exact decide_eq_true hb)
theorem quo_long {n p : Nat} (hn : n = 4096 + p) (hp : p < 2) : ∃ U g, quoR (List.replicate n 34) = (U, g) ∧ (p = 0 → g = 0 ∧ U.length = 2 * (n + 1)) ∧ (p = 1 → g = 5 ∧ U.length = 0) := by
  refine ⟨(quoR (List.replicate n 34)).1, (quoR (List.replicate n 34)).2, rfl, fun h => ?_, fun h => ?_⟩
  · subst h
    have h1 : ¬ 4096 < (List.replicate n (34 : UInt8)).length := by rw [List.length_replicate]; omega
    have h2 : ¬ (List.replicate n (34 : UInt8)).any unpB = true := by
      rw [List.any_eq_true]
      rintro ⟨c, hc, h⟩
      rw [List.eq_of_mem_replicate hc] at h
      exact absurd h (by decide)
    have e : quoR (List.replicate n 34) = (quoteF (List.replicate n 34), 0) := by unfold quoR; rw [if_neg h1, if_neg h2]
    rw [e]
    refine ⟨rfl, ?_⟩
    show (escF (List.replicate n 34) ++ [34]).length + 1 = _
    rw [List.length_append, esc_spN, List.length_replicate]
    have : spN (List.replicate n 34) = n := by
      unfold spN
      rw [List.count_replicate, List.count_replicate]
      simp
    rw [this]
    simp only [List.length_singleton]; omega
  · subst h
    have h1 : 4096 < (List.replicate n (34 : UInt8)).length := by rw [List.length_replicate]; omega
    have e : quoR (List.replicate n 34) = ([], 5) := by unfold quoR; rw [if_pos h1]
    rw [e]
    exact ⟨rfl, rfl⟩
theorem quo_read (s : Byts) (hs : s.length ≤ 100) : ∃ Q e, quoR s = (Q, e) ∧ (s.any unpB = true → e = 14 ∧ Q = []) ∧ (s.any unpB = false → e = 0 ∧ (scaF Q).2.2.2 = 0 ∧ ∃ c : Nat, (scaF Q).1 = [(3, s, 1, 1), (5, [], 1, c)]) := by
  refine ⟨(quoR s).1, (quoR s).2, rfl, fun h => ?_, fun h => ?_⟩
  · have e : quoR s = ([], 14) := by unfold quoR; rw [if_neg (by omega), if_pos h]
    rw [e]; exact ⟨rfl, rfl⟩
  · have e : quoR s = (quoteF s, 0) := by unfold quoR; rw [if_neg (by omega), if_neg (by rw [h]; decide)]
    rw [e]
    obtain ⟨c, hc⟩ := quote_sca (rig_of h) (by omega)
    rw [hc]
    exact ⟨rfl, rfl, c, rfl⟩
theorem quo_len (s : Byts) (hs : s.length ≤ 100) : (quoR s).1.length ≤ 1000 := by
  unfold quoR
  rw [if_neg (by omega)]
  split
  · exact Nat.zero_le _
  · have := esc_len s
    show (escF s ++ [34]).length + 1 ≤ 1000
    rw [List.length_append]; simp only [List.length_singleton]; omega
theorem any_take {s : Byts} {i : Nat} (h : i < s.length) : (s.take (i + 1)).any unpB = ((s.take i).any unpB || unpB (s.getD i 0)) := by
  rw [takeB_snoc h, List.any_append]; simp
set_option maxRecDepth 20000 in
set_option maxHeartbeats 2000000 in
theorem quotes_ok (s : Byts) (z : Int) (hz : 0 ≤ z ∧ z ≤ 255) (w : World) (hT : TabS (Hp.whole w)) : CallsE Tryz.prog 10 #[.string (bs s), .int .u8 z] w (RetV w (.bool true)) := by
  have hzs := bs_size s
  obtain ⟨zn, rfl⟩ := Int.eq_ofNat_of_zero_le hz.1
  have kn := fun (w' : World) (hm : (Hp.whole w).In w') => known35_spec w' (hT.mono hm.whole)
  refine enter (X := cx 131) (cxg _) (args := [.string (bs s), .int .u8 ((zn : Nat) : Int)]) [.tmp 4] Tryz.func10 rfl rfl rfl rfl rfl ?_
  refine callV _ (fun w' hm => kn w' (hm 0 _ rfl)) ?_
  refine bsplitd (fun h2 => ?_) (fun h2 => ?_)
  · refine callV _ (fun w' hm => kn w' (hm 0 _ rfl)) ?_
    exact ⟨[], ⟨rfl, rfl⟩, fun w' h => h.pick [0] rfl rfl⟩
  have hs : s.length ≤ 100 := by omega
  refine NeedL.mk Nat (fun i => [(0, .v (.string (bs s))), (1, .v (.int .u8 ((zn : Nat) : Int))), (5, .v (.bool (!(s.take i).any unpB))), (6, .v (.int .i64 i))]) (fun _ => [.hp (Hp.whole w)])
    (fun i => i ≤ s.length) (fun i => s.length - i) 0 (Nat.zero_le _) (Ent.mk (fun _ _ h => h) rfl rfl) ?_
  intro i hi
  dsimp only at *
  refine bsplitd (fun h3 => ?_) (fun h3 => ?_)
  · have hi1 : i < s.length := by omega
    have hat := any_take hi1
    obtain ⟨c, hc⟩ : ∃ c, c = s.getD i 0 := ⟨_, rfl⟩
    rw [← hc] at hat
    refine bsplit (fun h4 => ?_) (fun h4 => ?_)
    · have h4 : (s.take i).any unpB = false := by simpa using h4
      rw [h4, Bool.false_or] at hat
      refine qIdxL (cxg _) rfl rfl i rfl hi1 ?_
      rw [← hc]
      refine bsplitd (fun h6 => ?_) (fun h6 => ?_)
      · refine qIdxL (cxg _) rfl rfl i rfl hi1 ?_
        rw [← hc]
        refine nw (by omega) (by omega) ?_
        have e : (!(s.take (i + 1)).any unpB) = decide ((c.toNat : Int) ≤ 126) := by
          rw [hat]; unfold unpB unpN
          by_cases h7 : 126 < c.toNat
          · rw [decide_eq_false (show ¬ c.toNat < 32 by omega), decide_eq_true h7, decide_eq_false (show ¬ (c.toNat : Int) ≤ 126 by omega)]; rfl
          · rw [decide_eq_false (show ¬ c.toNat < 32 by omega), decide_eq_false h7, decide_eq_true (show (c.toNat : Int) ≤ 126 by omega)]; rfl
        exact ⟨i + 1, hi1, by (try dsimp only); omega, Ent.mk (fun _ _ h => h) (by (try dsimp only); rw [e]; rfl) rfl⟩
      · refine nw (by omega) (by omega) ?_
        have e : (!(s.take (i + 1)).any unpB) = false := by
          rw [hat]; unfold unpB unpN
          rw [decide_eq_true (show c.toNat < 32 by omega)]; rfl
        exact ⟨i + 1, hi1, by (try dsimp only); omega, Ent.mk (fun _ _ h => h) (by (try dsimp only); rw [e]; rfl) rfl⟩
    · have h4 : (s.take i).any unpB = true := by simpa using h4
      rw [h4, Bool.true_or] at hat
      refine nw (by omega) (by omega) ?_
      have e : (!(s.take (i + 1)).any unpB) = false := by rw [hat]; rfl
      exact ⟨i + 1, hi1, by (try dsimp only); omega, Ent.mk (fun _ _ h => h) (by (try dsimp only); rw [e]; rfl) rfl⟩
  have hi2 : i = s.length := by omega
  subst hi2
  rw [List.take_length]
  have hql := quo_len s hs
  have hQs := fun (w' : World) => Quote_spec s (by omega) w'
  obtain ⟨Q, e, hQ, hbad, hgood⟩ := quo_read s hs
  rw [hQ] at hQs hql
  dsimp only at hQs hql
  clear hQ
  generalize s.any unpB = A at *
  refine callV _ (fun w' hm => hQs w') ?_
  have hSc := fun (w' : World) (hm : (Hp.whole w).In w') => Scan_spec Q w' (hT.mono hm.whole)
  generalize scaF Q = T at *
  obtain ⟨L, f1, f2, f⟩ := T
  dsimp only at hSc hgood
  refine call (fun w' hm => hSc w' (hm 0 _ rfl)) ?_
  rintro _ _ ⟨oL, rfl, rfl, hoL⟩
  obtain ⟨p, hp⟩ : ∃ p, p = zn % 2 := ⟨_, rfl⟩
  have hp2 : p < 2 := by omega
  obtain ⟨n, hn⟩ : ∃ n, n = 4096 + p := ⟨_, rfl⟩
  obtain ⟨U, g, hU, hU0, hU1⟩ := quo_long hn hp2
  have hQl := fun (w' : World) => Quote_spec (List.replicate n 34) (by rw [List.length_replicate]; omega) w'
  rw [hU] at hQl
  dsimp only at hQl
  have hUs := bs_size U
  have hLn := hoL.len
  refine qRemE zn 2 p rfl rfl (by decide) hp ?_
  refine nw (by omega) (by omega) ?_
  refine nw (by omega) (by omega) ?_
  refine mkO (f := fU8) (cxg _) (e := 5) rfl n 0 rfl (by omega) (by omega) rfl (by omega) fun o60 ho60n ho60 => ?_
  refine NeedL.mk (Nat × Dw.Os) (fun y => [(0, .v (.string (bs s))), (1, .v (.int .u8 ((zn : Nat) : Int))), (5, .v (.bool (!A))), (7, .v (.string (bs Q))), (8, .v (.int .i64 e)), (9, .v oL.v), (12, .v (.int .i64 f)), (13, .v (o60.v)), (14, .v (.int .i64 y.1))]) (fun y => [.hp (Hp.whole w), .hp oL.h, .hp y.2.h])
    (fun y => y.1 ≤ n ∧ (y.2.a = o60.a ∧ y.2.n = o60.n ∧ y.2.c = o60.c) ∧ OwnO fU8 5 1 y.2 (List.replicate y.1 34 ++ List.replicate (n - y.1) 0)) (fun y => n - y.1) (0, o60) ⟨Nat.zero_le _, ⟨rfl, rfl, rfl⟩, ho60⟩ (Ent.mk (fun _ _ h => h) rfl rfl) ?_
  rintro ⟨k, ⟨oa, on, oc, oh⟩⟩ ⟨hk, ⟨ha, hnn, hcc⟩, hO⟩
  dsimp only at ha hnn hcc hk hO ⊢
  subst ha hnn hcc
  refine bsplitd (fun h8 => ?_) (fun h8 => ?_)
  · have hk1 : k < n := by omega
    have hkl : k < (List.replicate k (34 : UInt8) ++ List.replicate (n - k) 0).length := by rw [List.length_append, List.length_replicate, List.length_replicate]; omega
    refine oidx1 (f := fU8) (cxg _) (e := 5) rfl rfl hO k rfl hkl (fun b9 hb9 => ?_)
    refine osto (g := fun x : UInt8 => .int .u8 x.toNat) (fun _ => rfl) (cxg _) (i := 2) rfl hb9 hO hkl rfl rfl 34 rfl rfl rfl fun o2 f1 f2 f3 ho2 => ?_
    refine nw (by omega) (by omega) ?_
    exact ⟨(k + 1, o2), ⟨hk1, ⟨f1, f2, f3⟩, by
      dsimp only
      have : (List.replicate k (34 : UInt8) ++ List.replicate (n - k) 0).set k 34 = List.replicate (k + 1) 34 ++ List.replicate (n - (k + 1)) 0 := by
        rw [List.set_append_right _ _ (by simp), List.length_replicate, Nat.sub_self]
        obtain ⟨m, hm⟩ : ∃ m, n - k = m + 1 := ⟨n - k - 1, by omega⟩
        rw [hm, List.replicate_succ, List.set_cons_zero, show n - (k + 1) = m by omega, List.replicate_succ', List.append_assoc]; rfl
      rw [← this]; exact ho2⟩, by dsimp only; omega, Ent.mk (fun _ _ h => h) rfl rfl⟩
  have hk2 : k = n := by omega
  subst hk2
  rw [Nat.sub_self, List.replicate_zero, List.append_nil] at hO
  refine qStrO (i := 2) (o := ⟨o60.a, o60.n, o60.c, oh⟩) rfl hO (by rw [List.length_replicate]; omega) ?_
  refine callV _ (fun w' hm => hQl w') ?_

  refine hideQ (fun _ kz => kz _ _ ?_)
  refine normS [.hp (Hp.whole w), .hp oL.h, .hp oh] rfl ?_
  rcases (by omega : p = 0 ∨ p = 1) with rfl | rfl
  · obtain ⟨rfl, hUl⟩ := hU0 rfl
    show wops _ _ _ _ _ _
    refine w1k (by rfl) fun K hK => ?_
    refine hK _ _ ?_
    refine w1k (by rfl) fun K hK => ?_
    refine hK _ _ ?_
    refine w1k (by rfl) fun K hK => ?_
    refine hK _ _ ?_
    refine w1k (by rfl) fun K hK => ?_
    refine qRemE zn 2 0 rfl rfl (by decide) hp ?_
    refine hK _ _ ?_
    refine w1k (by rfl) fun K hK => ?_
    refine hK _ _ ?_
    refine w1k (by rfl) fun K hK => ?_
    refine qNeB ?_
    refine hK _ _ ?_
    refine w1k (by rfl) fun K hK => ?_
    refine hK _ _ ?_
    refine wGYk (by rfl) (by rfl) (by rfl) fun K hK => ?_
    refine hK _ _ ?_
    refine wGYk (by rfl) (by rfl) (by rfl) fun K hK => ?_
    refine hK _ _ ?_
    refine wGYk (by rfl) (by rfl) (by rfl) fun K hK => ?_
    refine hK _ _ ?_
    refine wGNk (by rfl) (by rfl) (by rfl) fun K hK => ?_
    refine hK _ _ ?_
    refine wGNk (by rfl) (by rfl) (by rfl) fun K hK => ?_
    refine hK _ _ ?_
    refine wGYk (by rfl) (by rfl) (by rfl) fun K hK => ?_
    refine hK _ _ ?_
    refine w1k (by rfl) fun K hK => ?_
    refine hK _ _ ?_
    refine w1k (by rfl) fun K hK => ?_
    refine hK _ _ ?_
    refine wGYk (by rfl) (by rfl) (by rfl) fun K hK => ?_
    refine hK _ _ ?_
    refine wGYk (by rfl) (by rfl) (by rfl) fun K hK => ?_
    refine hK _ _ ?_
    refine wGYk (by rfl) (by rfl) (by rfl) fun K hK => ?_
    refine hK _ _ ?_
    refine wGYk (by rfl) (by rfl) (by rfl) fun K hK => ?_
    refine hK _ _ ?_
    refine wGYk (by rfl) (by rfl) (by rfl) fun K hK => ?_
    refine nw (by omega) (by omega) ?_
    refine hK _ _ ?_
    refine wGYk (by rfl) (by rfl) (by rfl) fun K hK => ?_
    refine nw (by omega) (by omega) ?_
    refine hK _ _ ?_
    refine wGYk (by rfl) (by rfl) (by rfl) fun K hK => ?_
    refine hK _ _ ?_
    refine wGYk (by rfl) (by rfl) (by rfl) fun K hK => ?_
    refine qRemE zn 2 0 rfl rfl (by decide) hp ?_
    refine hK _ _ ?_
    refine wGYk (by rfl) (by rfl) (by rfl) fun K hK => ?_
    refine nw (by decide) (by decide) ?_
    refine hK _ _ ?_
    refine wGYk (by rfl) (by rfl) (by rfl) fun K hK => ?_
    refine nw (by decide) (by decide) ?_
    refine hK _ _ ?_
    refine wGYk (by rfl) (by rfl) (by rfl) fun K hK => ?_
    refine nw (by omega) (by omega) ?_
    refine hK _ _ ?_
    refine wGYk (by rfl) (by rfl) (by rfl) fun K hK => ?_
    refine hK _ _ ?_
    refine w1k (by rfl) fun K hK => ?_
    refine hK _ _ ?_
    refine wnil ?_
    refine wcond (by rfl) (fun h9 => ?_) (fun h9 => ?_)
    · exact absurd (by omega) (of_decide_eq_true h9)
    · cases A with
      | true =>
        obtain ⟨rfl, rfl⟩ := hbad rfl
        show wops _ _ _ _ _ _
        refine w1k (by rfl) fun K hK => ?_
        refine hK _ _ ?_
        refine w1k (by rfl) fun K hK => ?_
        refine hK _ _ ?_
        refine wnil ?_
        refine wcond (by rfl) (fun h9 => ?_) (fun h9 => ?_)
        · show wops _ _ _ _ _ _
          refine w1k (by rfl) fun K hK => ?_
          refine hK _ _ ?_
          refine w1k (by rfl) fun K hK => ?_
          refine hK _ _ ?_
          refine w1k (by rfl) fun K hK => ?_
          refine hK _ _ ?_
          refine wGYk (by rfl) (by rfl) (by rfl) fun K hK => ?_
          refine hK _ _ ?_
          refine wGYk (by rfl) (by rfl) (by rfl) fun K hK => ?_
          refine qEqL ?_
          refine hK _ _ ?_
          refine w1k (by rfl) fun K hK => ?_
          refine hK _ _ ?_
          refine w1k (by rfl) fun K hK => ?_
          refine hK _ _ ?_
          refine wnil ?_
          exact ⟨[], ⟨by first | rfl | exact congrArg Value.bool (decide_eq_true rfl), rfl⟩, fun w' h => h.pick [0] rfl rfl⟩
        · cases h9
      | false =>
        obtain ⟨rfl, rfl, c, rfl⟩ := hgood rfl
        obtain ⟨oLa, oLn, oLc, oLh⟩ := oL
        have hLn : oLn = 2 := hLn
        subst hLn
        have hsl : Sl (encF fT) 4 oLh oLa 2 oLc [(3, s, 1, 1), (5, [], 1, c)] := OwnO.sl (f := fT) (sz := 4) (fun _ => rfl) (by decide) hoL
        have h0l : 0 < ([(3, s, 1, 1), (5, [], 1, c)] : List Tok).length := Nat.succ_pos _
        show wops _ _ _ _ _ _
        refine w1k (by rfl) fun K hK => ?_
        refine hK _ _ ?_
        refine w1k (by rfl) fun K hK => ?_
        refine hK _ _ ?_
        refine wnil ?_
        refine wcond (by rfl) (fun h9 => ?_) (fun h9 => ?_)
        · cases h9
        · show wops _ _ _ _ _ _
          refine w1k (by rfl) fun K hK => ?_
          refine hK _ _ ?_
          refine w1k (by rfl) fun K hK => ?_
          refine hK _ _ ?_
          refine w1k (by rfl) fun K hK => ?_
          refine hK _ _ ?_
          refine wGYk (by rfl) (by rfl) (by rfl) fun K hK => ?_
          refine hK _ _ ?_
          refine wGYk (by rfl) (by rfl) (by rfl) fun K hK => ?_
          refine hK _ _ ?_
          refine w1k (by rfl) fun K hK => ?_
          refine hK _ _ ?_
          refine w1k (by rfl) fun K hK => ?_
          refine hK _ _ ?_
          refine wGYk (by rfl) (by rfl) (by rfl) fun K hK => ?_
          refine hK _ _ ?_
          refine wGYk (by rfl) (by rfl) (by rfl) fun K hK => ?_
          refine hK _ _ ?_
          refine wGYk (by rfl) (by rfl) (by rfl) fun K hK => ?_
          refine hK _ _ ?_
          refine w1k (by rfl) fun K hK => ?_
          refine hK _ _ ?_
          refine w1k (by rfl) fun K hK => ?_
          refine hK _ _ ?_
          refine wGYk (by rfl) (by rfl) (by rfl) fun K hK => ?_
          refine hK _ _ ?_
          refine wGYk (by rfl) (by rfl) (by rfl) fun K hK => ?_
          refine idx (cxg _) (e := 32) rfl hsl 0 rfl h0l (fun b9 o9 cs hcs hR hcell => ?_)
          subst hR
          refine hK _ _ ?_
          refine wGYk (by rfl) (by rfl) (by rfl) fun K hK => ?_
          refine ldn (cxg _) (i := 1) rfl hcell rfl ?_
          refine hK _ _ ?_
          refine wGYk (by rfl) (by rfl) (by rfl) fun K hK => ?_
          refine hK _ _ ?_
          refine wGYk (by rfl) (by rfl) (by rfl) fun K hK => ?_
          refine hK _ _ ?_
          refine wGYk (by rfl) (by rfl) (by rfl) fun K hK => ?_
          refine qTokEq (a := (3, s, 1, 1)) (b := (3, s, 1, 1)) ?_
          refine hK _ _ ?_
          refine w1k (by rfl) fun K hK => ?_
          refine hK _ _ ?_
          refine w1k (by rfl) fun K hK => ?_
          refine hK _ _ ?_
          refine wnil ?_
          exact ⟨[], ⟨by first | rfl | exact congrArg Value.bool (decide_eq_true rfl), rfl⟩, fun w' h => h.pick [0] rfl rfl⟩
  · obtain ⟨rfl, hUl⟩ := hU1 rfl
    show wops _ _ _ _ _ _
    refine w1k (by rfl) fun K hK => ?_
    refine hK _ _ ?_
    refine w1k (by rfl) fun K hK => ?_
    refine hK _ _ ?_
    refine w1k (by rfl) fun K hK => ?_
    refine hK _ _ ?_
    refine w1k (by rfl) fun K hK => ?_
    refine qRemE zn 2 1 rfl rfl (by decide) hp ?_
    refine hK _ _ ?_
    refine w1k (by rfl) fun K hK => ?_
    refine hK _ _ ?_
    refine w1k (by rfl) fun K hK => ?_
    refine qNeB ?_
    refine hK _ _ ?_
    refine w1k (by rfl) fun K hK => ?_
    refine hK _ _ ?_
    refine wGYk (by rfl) (by rfl) (by rfl) fun K hK => ?_
    refine hK _ _ ?_
    refine wGYk (by rfl) (by rfl) (by rfl) fun K hK => ?_
    refine hK _ _ ?_
    refine wGYk (by rfl) (by rfl) (by rfl) fun K hK => ?_
    refine hK _ _ ?_
    refine wGYk (by rfl) (by rfl) (by rfl) fun K hK => ?_
    refine hK _ _ ?_
    refine wGYk (by rfl) (by rfl) (by rfl) fun K hK => ?_
    refine hK _ _ ?_
    refine wGYk (by rfl) (by rfl) (by rfl) fun K hK => ?_
    refine hK _ _ ?_
    refine w1k (by rfl) fun K hK => ?_
    refine hK _ _ ?_
    refine w1k (by rfl) fun K hK => ?_
    refine hK _ _ ?_
    refine wGYk (by rfl) (by rfl) (by rfl) fun K hK => ?_
    refine hK _ _ ?_
    refine wGYk (by rfl) (by rfl) (by rfl) fun K hK => ?_
    refine hK _ _ ?_
    refine wGYk (by rfl) (by rfl) (by rfl) fun K hK => ?_
    refine hK _ _ ?_
    refine wGYk (by rfl) (by rfl) (by rfl) fun K hK => ?_
    refine hK _ _ ?_
    refine wGYk (by rfl) (by rfl) (by rfl) fun K hK => ?_
    refine nw (by omega) (by omega) ?_
    refine hK _ _ ?_
    refine wGYk (by rfl) (by rfl) (by rfl) fun K hK => ?_
    refine nw (by omega) (by omega) ?_
    refine hK _ _ ?_
    refine wGYk (by rfl) (by rfl) (by rfl) fun K hK => ?_
    refine hK _ _ ?_
    refine wGYk (by rfl) (by rfl) (by rfl) fun K hK => ?_
    refine qRemE zn 2 1 rfl rfl (by decide) hp ?_
    refine hK _ _ ?_
    refine wGYk (by rfl) (by rfl) (by rfl) fun K hK => ?_
    refine nw (by decide) (by decide) ?_
    refine hK _ _ ?_
    refine wGYk (by rfl) (by rfl) (by rfl) fun K hK => ?_
    refine nw (by decide) (by decide) ?_
    refine hK _ _ ?_
    refine wGYk (by rfl) (by rfl) (by rfl) fun K hK => ?_
    refine nw (by omega) (by omega) ?_
    refine hK _ _ ?_
    refine wGYk (by rfl) (by rfl) (by rfl) fun K hK => ?_
    refine hK _ _ ?_
    refine w1k (by rfl) fun K hK => ?_
    refine hK _ _ ?_
    refine wnil ?_
    refine wcond (by rfl) (fun h9 => ?_) (fun h9 => ?_)
    · exact absurd (by omega) (of_decide_eq_true h9)
    · cases A with
      | true =>
        obtain ⟨rfl, rfl⟩ := hbad rfl
        show wops _ _ _ _ _ _
        refine w1k (by rfl) fun K hK => ?_
        refine hK _ _ ?_
        refine w1k (by rfl) fun K hK => ?_
        refine hK _ _ ?_
        refine wnil ?_
        refine wcond (by rfl) (fun h9 => ?_) (fun h9 => ?_)
        · show wops _ _ _ _ _ _
          refine w1k (by rfl) fun K hK => ?_
          refine hK _ _ ?_
          refine w1k (by rfl) fun K hK => ?_
          refine hK _ _ ?_
          refine w1k (by rfl) fun K hK => ?_
          refine hK _ _ ?_
          refine wGYk (by rfl) (by rfl) (by rfl) fun K hK => ?_
          refine hK _ _ ?_
          refine wGYk (by rfl) (by rfl) (by rfl) fun K hK => ?_
          refine qEqL ?_
          refine hK _ _ ?_
          refine w1k (by rfl) fun K hK => ?_
          refine hK _ _ ?_
          refine w1k (by rfl) fun K hK => ?_
          refine hK _ _ ?_
          refine wnil ?_
          exact ⟨[], ⟨by first | rfl | exact congrArg Value.bool (decide_eq_true rfl), rfl⟩, fun w' h => h.pick [0] rfl rfl⟩
        · cases h9
      | false =>
        obtain ⟨rfl, rfl, c, rfl⟩ := hgood rfl
        obtain ⟨oLa, oLn, oLc, oLh⟩ := oL
        have hLn : oLn = 2 := hLn
        subst hLn
        have hsl : Sl (encF fT) 4 oLh oLa 2 oLc [(3, s, 1, 1), (5, [], 1, c)] := OwnO.sl (f := fT) (sz := 4) (fun _ => rfl) (by decide) hoL
        have h0l : 0 < ([(3, s, 1, 1), (5, [], 1, c)] : List Tok).length := Nat.succ_pos _
        show wops _ _ _ _ _ _
        refine w1k (by rfl) fun K hK => ?_
        refine hK _ _ ?_
        refine w1k (by rfl) fun K hK => ?_
        refine hK _ _ ?_
        refine wnil ?_
        refine wcond (by rfl) (fun h9 => ?_) (fun h9 => ?_)
        · cases h9
        · show wops _ _ _ _ _ _
          refine w1k (by rfl) fun K hK => ?_
          refine hK _ _ ?_
          refine w1k (by rfl) fun K hK => ?_
          refine hK _ _ ?_
          refine w1k (by rfl) fun K hK => ?_
          refine hK _ _ ?_
          refine wGYk (by rfl) (by rfl) (by rfl) fun K hK => ?_
          refine hK _ _ ?_
          refine wGYk (by rfl) (by rfl) (by rfl) fun K hK => ?_
          refine hK _ _ ?_
          refine w1k (by rfl) fun K hK => ?_
          refine hK _ _ ?_
          refine w1k (by rfl) fun K hK => ?_
          refine hK _ _ ?_
          refine wGYk (by rfl) (by rfl) (by rfl) fun K hK => ?_
          refine hK _ _ ?_
          refine wGYk (by rfl) (by rfl) (by rfl) fun K hK => ?_
          refine hK _ _ ?_
          refine wGYk (by rfl) (by rfl) (by rfl) fun K hK => ?_
          refine hK _ _ ?_
          refine w1k (by rfl) fun K hK => ?_
          refine hK _ _ ?_
          refine w1k (by rfl) fun K hK => ?_
          refine hK _ _ ?_
          refine wGYk (by rfl) (by rfl) (by rfl) fun K hK => ?_
          refine hK _ _ ?_
          refine wGYk (by rfl) (by rfl) (by rfl) fun K hK => ?_
          refine idx (cxg _) (e := 32) rfl hsl 0 rfl h0l (fun b9 o9 cs hcs hR hcell => ?_)
          subst hR
          refine hK _ _ ?_
          refine wGYk (by rfl) (by rfl) (by rfl) fun K hK => ?_
          refine ldn (cxg _) (i := 1) rfl hcell rfl ?_
          refine hK _ _ ?_
          refine wGYk (by rfl) (by rfl) (by rfl) fun K hK => ?_
          refine hK _ _ ?_
          refine wGYk (by rfl) (by rfl) (by rfl) fun K hK => ?_
          refine hK _ _ ?_
          refine wGYk (by rfl) (by rfl) (by rfl) fun K hK => ?_
          refine qTokEq (a := (3, s, 1, 1)) (b := (3, s, 1, 1)) ?_
          refine hK _ _ ?_
          refine w1k (by rfl) fun K hK => ?_
          refine hK _ _ ?_
          refine w1k (by rfl) fun K hK => ?_
          refine hK _ _ ?_
          refine wnil ?_
          exact ⟨[], ⟨by first | rfl | exact congrArg Value.bool (decide_eq_true rfl), rfl⟩, fun w' h => h.pick [0] rfl rfl⟩
end Go.Proofs.YtoholjdojdmbkaaGreatDoor
