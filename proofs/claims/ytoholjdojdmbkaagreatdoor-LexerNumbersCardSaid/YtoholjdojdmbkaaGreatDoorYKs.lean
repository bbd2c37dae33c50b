/- The law LexerNumbers. Each theorem's premises are its own. -/
import Derived.Test.YtoholjdojdmbkaaGreatDoorXQ
import Derived.Test.YtoholjdojdmbkaaGreatDoorXP
import Derived.Test.YtoholjdojdmbkaaGreatDoorXL
namespace Go.Proofs.YtoholjdojdmbkaaGreatDoor
open Go Go.RowKit Go.Dw
theorem from_mag (x : Nat) (hx : x ≤ 9223372036854775807) (w : World) :
    CallsE Tryz.prog 25 #[.int .i64 x] w (Ret w fun v cs => ∃ g a n c, cs = [.hp g] ∧ v = intV false a n c ∧ Mag g (.slice a n c) x) := by
  have hcon := from_spec (x : Int) (by omega) (by omega) w
  refine ⟨hcon.1, hcon.2.mono ?_⟩
  rintro e w' ⟨v, cs, rfl, hk, g, a, n, c, L, rfl, rfl, hs, hc⟩
  have e1 : decide ((x : Int) < 0) = false := decide_eq_false (by omega)
  rw [e1]
  have e2 : (x : Int).natAbs = x := by omega
  rw [e2] at hc
  refine ⟨_, _, rfl, hk, g, a, n, c, rfl, rfl, ⟨_, _, _, L, rfl, hs, hc, ?_⟩⟩
  refine Classical.byContradiction fun hl => ?_
  have h1 := hc.ge (by omega)
  have h2 : Bs ^ 2 ≤ Bs ^ (L.length - 1) := Nat.pow_le_pow_right (by decide) (by omega)
  have h3 : Bs ^ 2 = 18446744073709551616 := rfl
  omega
theorem Error_of {k h : Hp} {b : Nat} {r : RS} {e z : Int} {c : Nat} (w : World) (hin : h.In w) (hR : Rdr k h b r) (he : r.e = e) (h0 : e ≠ 0) (hc : r.co = c) (hz : z = c) :
    CallsE Tryz.prog 19 #[.pointer (some ⟨b, 0, none⟩)] w (RetV w (.tuple #[.int .i64 r.ln, .int .i64 z, .int .i64 e])) := by
  have := Error_spec w hin hR
  rw [if_neg (by rw [he]; exact h0), if_neg (by rw [he]; exact h0), he, hc, ← hz] at this
  exact this
theorem Error_ok {k h : Hp} {b : Nat} {r : RS} (w : World) (hin : h.In w) (hR : Rdr k h b r) (he : r.e = 0) :
    CallsE Tryz.prog 19 #[.pointer (some ⟨b, 0, none⟩)] w (RetV w (.tuple #[.int .i64 0, .int .i64 0, .int .i64 0])) := by
  have := Error_spec w hin hR
  rw [if_pos he, if_pos he, he] at this
  exact this
theorem sg_zero {t : Byts} (h : bs ([45] ++ t) = bs [45, 48]) : t = [48] := by
  have := congrArg (fun x : ByteArray => x.data.toList) h
  have h2 : 45 :: t = [45, 48] := this
  exact (List.cons.inj h2).2
set_option maxRecDepth 20000 in
set_option maxHeartbeats 2000000 in
theorem numbers_ok (xa xb : Int) (hxa : -9223372036854775808 ≤ xa ∧ xa ≤ 9223372036854775807) (hxb : -9223372036854775808 ≤ xb ∧ xb ≤ 9223372036854775807) (minus : Bool) (w : World) (hT : TabS (Hp.whole w)) (hP : TabP (Hp.whole w)) : CallsE Tryz.prog 8 #[.int .i64 xa, .int .i64 xb, .bool minus] w (RetV w (.bool true)) := by
  have kn := fun (w' : World) hm => known35_spec w' (hT.mono (hm : (Hp.whole w).le (Hp.whole w')))
  refine enter (X := cx 176) (cxg _) (args := [.int .i64 xa, .int .i64 xb, .bool minus]) [.tmp 6] Tryz.func8 rfl rfl rfl rfl rfl ?_
  refine callV _ (fun w' hm => kn w' (hm 0 _ rfl).whole) ?_
  refine bsplitd (fun h1 => ?_) (fun h1 => ?_)
  · refine callV _ (fun w' hm => kn w' (hm 0 _ rfl).whole) ?_
    exact ⟨[], ⟨rfl, rfl⟩, fun w' h => h.pick [0] rfl rfl⟩
  refine bsplitd (fun h2 => ?_) (fun h2 => ?_)
  · refine callV _ (fun w' hm => kn w' (hm 0 _ rfl).whole) ?_
    exact ⟨[], ⟨rfl, rfl⟩, fun w' h => h.pick [0] rfl rfl⟩
  obtain ⟨a, rfl⟩ := Int.eq_ofNat_of_zero_le (show 0 ≤ xa by omega)
  obtain ⟨b, rfl⟩ := Int.eq_ofNat_of_zero_le (show 0 ≤ xb by omega)
  refine call (fun w' hm => from_mag a (by omega) w') ?_
  rintro _ _ ⟨g1, a1, n1, c1, rfl, rfl, hM1⟩
  refine callS (fun w' hm => from_mag b (by omega) w') ?_
  rintro _ _ ⟨g2, a2, n2, c2, rfl, rfl, hM2⟩ hsat
  have hl12 : g2.le (g1.join g2) := hsat.leR 1 2 rfl rfl
  clear hsat
  intro b7
  intro b8
  refine NeedD.by_order (cxg _) (.take 0 <| .take 3 <| .run 1 <| .take 2 <| .run 4 <| .take 5 <| .take 6 <| .done) (by kernel_rfl) ?_
  refine call (fun w' hm => textInt_spec w' (hM1.mono (hm 1 _ rfl).whole) (by omega) (hP.mono (hm 0 _ rfl).whole)) ?_
  rintro _ _ ⟨rfl, A, rfl, hA, lA⟩
  refine ⟨(by repeat first | exact trivial | refine ⟨.inl rfl, ?_⟩ | refine ⟨.inr rfl, ?_⟩), ?_⟩
  refine qAdd (ty := 9) (a := A) (b := [47]) (by show A.length + 1 < _; omega) ?_
  refine call (fun w' hm => textInt_spec w' (hM2.mono (hm 2 _ rfl).whole) (by omega) (hP.mono (hm 0 _ rfl).whole)) ?_
  rintro _ _ ⟨rfl, B, rfl, hB, lB⟩
  refine ⟨(by repeat first | exact trivial | refine ⟨.inl rfl, ?_⟩ | refine ⟨.inr rfl, ?_⟩), ?_⟩
  refine qAdd (ty := 9) (a := A ++ [47]) (b := B) (by rw [List.length_append]; show A.length + 1 + B.length < _; omega) ?_
  rw [show A ++ [47] ++ B = A ++ 47 :: B by simp]
  refine call (fun w' hm => gcd_spec (h := g1.join g2) w' (Hp.join_in (hm 1 _ rfl) (hm 2 _ rfl)) (hM1.mono (Hp.le_left _ _)) (hM2.mono hl12)) ?_
  rintro _ _ ⟨gg, a3, n3, c3, rfl, rfl, hM3⟩
  have hgc : Nat.gcd a b < 9223372036854775808 := by
    rcases Nat.eq_zero_or_pos a with g | g
    · subst g; rw [Nat.gcd_zero_left]; omega
    · have := Nat.gcd_le_left b g; omega
  have hii : intI false (Nat.gcd a b) = (((Nat.gcd a b : Nat) : Int), true) := by unfold intI; rw [if_neg (fun g => by cases g), if_pos hgc]
  refine callV (.tuple #[.int .i64 (Nat.gcd a b : Nat), .bool true]) (fun w' hm => by have := int_spec (neg := false) w' (hM3 (Hp.whole w') (Hp.join_in (hm 1 _ rfl) (hm 2 _ rfl)).whole (hm 5 _ rfl).whole); rw [hii] at this; exact this) ?_
  generalize hG : Nat.gcd a b = gc at *
  refine hideQ (fun _ kz => kz _ _ ?_)
  refine normS [.hp (Hp.whole w), .hp g1, .hp g2, .box b7 [.bool false, .slice a1 n1 c1] 54, .box b8 [.bool false, .slice a2 n2 c2] 54, .hp gg] rfl ?_
  show wops _ _ _ _ _ _
  refine w1k (by rfl) fun K hK => ?_
  refine hK _ _ ?_
  refine w1k (by rfl) fun K hK => ?_
  refine hK _ _ ?_
  refine w1k (by rfl) fun K hK => ?_
  refine hK _ _ ?_
  refine wGSk (by rfl) (by rfl) (by rfl) (fun h2_ K hK => ?_) (fun h2_ K hK => ?_)
  · refine hK _ _ ?_
    refine wGYk (by rfl) (by rfl) (by rfl) fun K hK => ?_
    refine hK _ _ ?_
    refine wGYk (by rfl) (by rfl) (by rfl) fun K hK => ?_
    refine hK _ _ ?_
    refine wGSk (by rfl) (by rfl) (by rfl) (fun h5_ K hK => ?_) (fun h5_ K hK => ?_)
    · refine hK _ _ ?_
      refine wGYk (by rfl) (by rfl) (by rfl) fun K hK => ?_
      refine hK _ _ ?_
      refine wGYk (by rfl) (by rfl) (by rfl) fun K hK => ?_
      refine hK _ _ ?_
      refine w1k (by rfl) fun K hK => ?_
      refine hK _ _ ?_
      refine wnil ?_
      have hb : b = 0 := by have := of_decide_eq_true h5_; omega
      refine wcond (by rfl) (fun h9 => ?_) (fun h9 => ?_)
      · have ha : a = 0 := by have := of_decide_eq_true h9; omega
        refine call (fun w' hm => textInt_spec w' (hM1.mono (hm 1 _ rfl).whole) (by omega) (hP.mono (hm 0 _ rfl).whole)) ?_
        rintro _ _ ⟨rfl, A', rfl, hA', lA'⟩
        refine hideQ (fun _ kz => kz _ _ ?_)
        show wops _ _ _ _ _ _
        refine w1k (by rfl) fun K hK => ?_
        refine hK _ _ ?_
        refine w1k (by rfl) fun K hK => ?_
        refine hK _ _ ?_
        refine w1k (by rfl) fun K hK => ?_
        refine hK _ _ ?_
        refine wGSk (by rfl) (by rfl) (by rfl) (fun h2_ K hK => ?_) (fun h2_ K hK => ?_)
        · refine hK _ _ ?_
          refine wGYk (by rfl) (by rfl) (by rfl) fun K hK => ?_
          refine hK _ _ ?_
          refine wGYk (by rfl) (by rfl) (by rfl) fun K hK => ?_
          refine hK _ _ ?_
          refine wGSk (by rfl) (by rfl) (by rfl) (fun h5_ K hK => ?_) (fun h5_ K hK => ?_)
          · refine hK _ _ ?_
            refine wGYk (by rfl) (by rfl) (by rfl) fun K hK => ?_
            refine hK _ _ ?_
            refine wGYk (by rfl) (by rfl) (by rfl) fun K hK => ?_
            refine hK _ _ ?_
            refine w1k (by rfl) fun K hK => ?_
            refine hK _ _ ?_
            refine w1k (by rfl) fun K hK => ?_
            refine hK _ _ ?_
            refine wGSk (by rfl) (by rfl) (by rfl) (fun h10_ K hK => ?_) (fun h10_ K hK => ?_)
            · exact absurd (of_decide_eq_false h10_) (by omega)
            · refine hK _ _ ?_
              refine wGNk (by rfl) (by rfl) (by rfl) fun K hK => ?_
              refine hK _ _ ?_
              refine wGNk (by rfl) (by rfl) (by rfl) fun K hK => ?_
              refine hK _ _ ?_
              refine wGUk (by rfl) (by rfl) (by rfl) fun K hK => ?_
              refine hK _ _ ?_
              refine wGUk (by rfl) (by rfl) (by rfl) fun K hK => ?_
              refine hK _ _ ?_
              refine wGNk (by rfl) (by rfl) (by rfl) fun K hK => ?_
              refine hK _ _ ?_
              refine w1k (by rfl) fun K hK => ?_
              refine hK _ _ ?_
              refine w1k (by rfl) fun K hK => ?_
              refine hK _ _ ?_
              refine wnil ?_
              have hcan : canX a b := .inr (.inl ⟨hb, ha⟩)
              have hQ := numbers_plain hA' hB lA' lB (by omega) minus
              rw [show ratX a b A' B = A' from if_pos (.inr ⟨hb, ha⟩)] at hQ
              show wops _ _ _ _ _ _
              refine w1k (by rfl) fun K hK => ?_
              refine hK _ _ ?_
              refine wnil ?_
              refine wcond (by rfl) (fun h91 => ?_) (fun h91 => ?_)
              · obtain rfl : minus = true := h91
                show wops _ _ _ _ _ _
                refine w1k (by rfl) fun K hK => ?_
                refine hK _ _ ?_
                refine w1k (by rfl) fun K hK => ?_
                refine qAdd (ty := 9) (a := [45]) (b := A') (by simp; omega) ?_
                refine hK _ _ ?_
                refine w1k (by rfl) fun K hK => ?_
                refine hK _ _ ?_
                refine wnil ?_
                by_cases hz : A' = [48]
                · refine call (fun w' hm => New_spec (sgX true (A')) w' (hT.mono (hm 0 _ rfl).whole)) ?_
                  rintro _ _ ⟨br, hr, kr, rfl, rfl, hR0⟩
                  refine callMO (i := 6) rfl (fun w0 w' hok => Number_spec w' (hok.mem 6 _ rfl) (Ok.kle2 (j := 7) (i := 6) hok (by decide) rfl rfl) hR0) ?_
                  rintro _ hr1 _ ⟨rfl, rfl, hR1⟩
                  generalize numR (newR (sgX true (A'))) = RA at *
                  obtain ⟨rA, x⟩ := RA
                  obtain ⟨q1, q2, q3⟩ := hQ.zero hcan rfl hz
                  dsimp only at q1 q2 q3 hR1
                  subst q1
                  refine callV (.tuple #[.int .i64 rA.ln, .int .i64 2, .int .i64 3]) (fun w' hm => Error_of w' (hm 6 _ rfl) hR1 q2 (by decide) (z := 2) (c := 2) q3 rfl) ?_
                  refine hideQ (fun _ kz => kz _ _ ?_)
                  show wops _ _ _ _ _ _
                  refine w1k (by rfl) fun K hK => ?_
                  refine hK _ _ ?_
                  refine w1k (by rfl) fun K hK => ?_
                  refine hK _ _ ?_
                  refine wnil ?_
                  refine wcond (by rfl) (fun h14 => ?_) (fun h14 => ?_)
                  · exact absurd h14 (by decide)
                  · show wops _ _ _ _ _ _
                    refine w1k (by rfl) fun K hK => ?_
                    refine hK _ _ ?_
                    refine w1k (by rfl) fun K hK => ?_
                    refine hK _ _ ?_
                    refine wGYk (by rfl) (by rfl) (by rfl) fun K hK => ?_
                    refine hK _ _ ?_
                    refine wGYk (by rfl) (by rfl) (by rfl) fun K hK => ?_
                    refine qEqS ?_
                    refine hK _ _ ?_
                    refine w1k (by rfl) fun K hK => ?_
                    refine hK _ _ ?_
                    refine wnil ?_
                    refine wcond (by rfl) (fun h9 => ?_) (fun h9 => ?_)
                    · show wops _ _ _ _ _ _
                      refine w1k (by rfl) fun K hK => ?_
                      refine hK _ _ ?_
                      refine w1k (by rfl) fun K hK => ?_
                      refine qEqS ?_
                      refine hK _ _ ?_
                      refine w1k (by rfl) fun K hK => ?_
                      refine hK _ _ ?_
                      refine wGSk (by rfl) (by rfl) (by rfl) (fun h2_ K hK => ?_) (fun h2_ K hK => ?_)
                      · refine hK _ _ ?_
                        refine wGYk (by rfl) (by rfl) (by rfl) fun K hK => ?_
                        refine hK _ _ ?_
                        refine w1k (by rfl) fun K hK => ?_
                        refine hK _ _ ?_
                        refine w1k (by rfl) fun K hK => ?_
                        refine hK _ _ ?_
                        refine wGSk (by rfl) (by rfl) (by rfl) (fun h6_ K hK => ?_) (fun h6_ K hK => ?_)
                        · refine hK _ _ ?_
                          refine wGYk (by rfl) (by rfl) (by rfl) fun K hK => ?_
                          refine hK _ _ ?_
                          refine w1k (by rfl) fun K hK => ?_
                          refine hK _ _ ?_
                          refine w1k (by rfl) fun K hK => ?_
                          refine hK _ _ ?_
                          refine wnil ?_
                          exact ⟨[], ⟨by first | rfl | exact congrArg Value.bool (decide_eq_true rfl), rfl⟩, fun w' h => h.pick [0] rfl rfl⟩
                        · exact absurd rfl (of_decide_eq_false h6_)
                      · exact absurd rfl (of_decide_eq_false h2_)
                    · exact absurd (by rw [hz]; rfl) (of_decide_eq_false h9)
                · have hz : true = true → A' ≠ [48] := fun _ => hz
                  by_cases hf : 1 < b ∨ 1000 < a
                  · refine call (fun w' hm => New_spec (sgX true (A')) w' (hT.mono (hm 0 _ rfl).whole)) ?_
                    rintro _ _ ⟨br, hr, kr, rfl, rfl, hR0⟩
                    refine callMO (i := 6) rfl (fun w0 w' hok => Number_spec w' (hok.mem 6 _ rfl) (Ok.kle2 (j := 7) (i := 6) hok (by decide) rfl rfl) hR0) ?_
                    rintro _ hr1 _ ⟨rfl, rfl, hR1⟩
                    generalize numR (newR (sgX true (A'))) = RA at *
                    obtain ⟨rA, x⟩ := RA
                    obtain ⟨q1, q2⟩ := hQ.ok hcan hz
                    dsimp only at q1 q2 hR1
                    rw [q1]
                    refine callV (.tuple #[.int .i64 0, .int .i64 0, .int .i64 0]) (fun w' hm => Error_ok w' (hm 6 _ rfl) hR1 q2) ?_
                    refine hideQ (fun _ kz => kz _ _ ?_)
                    show wops _ _ _ _ _ _
                    refine w1k (by rfl) fun K hK => ?_
                    refine hK _ _ ?_
                    refine w1k (by rfl) fun K hK => ?_
                    refine hK _ _ ?_
                    refine wnil ?_
                    refine wcond (by rfl) (fun h14 => ?_) (fun h14 => ?_)
                    · exact absurd h14 (by decide)
                    · show wops _ _ _ _ _ _
                      refine w1k (by rfl) fun K hK => ?_
                      refine hK _ _ ?_
                      refine w1k (by rfl) fun K hK => ?_
                      refine hK _ _ ?_
                      refine wGYk (by rfl) (by rfl) (by rfl) fun K hK => ?_
                      refine hK _ _ ?_
                      refine wGYk (by rfl) (by rfl) (by rfl) fun K hK => ?_
                      refine qEqS ?_
                      refine hK _ _ ?_
                      refine w1k (by rfl) fun K hK => ?_
                      refine hK _ _ ?_
                      refine wnil ?_
                      refine wcond (by rfl) (fun h9 => ?_) (fun h9 => ?_)
                      · exact absurd (sg_zero (of_decide_eq_true h9)) (hz rfl)
                      · refine call (fun w' hm => New_spec (sgX true (A')) w' (hT.mono (hm 0 _ rfl).whole)) ?_
                        rintro _ _ ⟨bq, hq, kq, rfl, rfl, hS0⟩
                        refine callMO (i := 8) rfl (fun w0 w' hok => Int_spec w' (hok.mem 8 _ rfl) (Ok.kle2 (j := 9) (i := 8) hok (by decide) rfl rfl) hS0) ?_
                        rintro _ hq1 _ ⟨rfl, rfl, hS1⟩
                        generalize intR (newR (sgX true (A'))) (-1000) 1000 = RB at *
                        obtain ⟨rB, kv⟩ := RB
                        obtain ⟨p1, p2, p3⟩ := hQ.far hcan hz hf
                        dsimp only at p1 p2 p3 hS1
                        subst p1
                        refine callV (.tuple #[.int .i64 rB.ln, .int .i64 1, .int .i64 2]) (fun w' hm => Error_of w' (hm 8 _ rfl) hS1 p2 (by decide) (z := 1) (c := 1) p3 rfl) ?_
                        refine hideQ (fun _ kz => kz _ _ ?_)
                        show wops _ _ _ _ _ _
                        refine w1k (by rfl) fun K hK => ?_
                        refine hK _ _ ?_
                        refine w1k (by rfl) fun K hK => ?_
                        refine hK _ _ ?_
                        refine w1k (by rfl) fun K hK => ?_
                        refine hK _ _ ?_
                        refine wGSk (by rfl) (by rfl) (by rfl) (fun h2_ K hK => ?_) (fun h2_ K hK => ?_)
                        · refine hK _ _ ?_
                          refine wGYk (by rfl) (by rfl) (by rfl) fun K hK => ?_
                          refine hK _ _ ?_
                          refine wGYk (by rfl) (by rfl) (by rfl) fun K hK => ?_
                          refine qNeS ?_
                          refine hK _ _ ?_
                          refine w1k (by rfl) fun K hK => ?_
                          refine hK _ _ ?_
                          refine wnil ?_
                          refine wcond (by rfl) (fun h9 => ?_) (fun h9 => ?_)
                          · exact absurd rfl (of_decide_eq_true h9)
                          · show wops _ _ _ _ _ _
                            refine w1k (by rfl) fun K hK => ?_
                            refine hK _ _ ?_
                            refine w1k (by rfl) fun K hK => ?_
                            refine hK _ _ ?_
                            refine w1k (by rfl) fun K hK => ?_
                            refine hK _ _ ?_
                            refine wGSk (by rfl) (by rfl) (by rfl) (fun h2_ K hK => ?_) (fun h2_ K hK => ?_)
                            · refine hK _ _ ?_
                              refine wGYk (by rfl) (by rfl) (by rfl) fun K hK => ?_
                              refine hK _ _ ?_
                              refine w1k (by rfl) fun K hK => ?_
                              refine hK _ _ ?_
                              refine wnil ?_
                              refine wcond (by rfl) (fun h9 => ?_) (fun h9 => ?_)
                              · show wops _ _ _ _ _ _
                                refine w1k (by rfl) fun K hK => ?_
                                refine hK _ _ ?_
                                refine w1k (by rfl) fun K hK => ?_
                                refine hK _ _ ?_
                                refine w1k (by rfl) fun K hK => ?_
                                refine hK _ _ ?_
                                refine wGSk (by rfl) (by rfl) (by rfl) (fun h2_ K hK => ?_) (fun h2_ K hK => ?_)
                                · refine hK _ _ ?_
                                  refine wGYk (by rfl) (by rfl) (by rfl) fun K hK => ?_
                                  refine hK _ _ ?_
                                  refine w1k (by rfl) fun K hK => ?_
                                  refine hK _ _ ?_
                                  refine w1k (by rfl) fun K hK => ?_
                                  refine hK _ _ ?_
                                  refine wGSk (by rfl) (by rfl) (by rfl) (fun h6_ K hK => ?_) (fun h6_ K hK => ?_)
                                  · refine hK _ _ ?_
                                    refine wGYk (by rfl) (by rfl) (by rfl) fun K hK => ?_
                                    refine hK _ _ ?_
                                    refine w1k (by rfl) fun K hK => ?_
                                    refine hK _ _ ?_
                                    refine w1k (by rfl) fun K hK => ?_
                                    refine hK _ _ ?_
                                    refine wnil ?_
                                    exact ⟨[], ⟨by first | rfl | exact congrArg Value.bool (decide_eq_true rfl), rfl⟩, fun w' h => h.pick [0] rfl rfl⟩
                                  · exact absurd rfl (of_decide_eq_false h6_)
                                · exact absurd rfl (of_decide_eq_false h2_)
                              · exact absurd hf (by have := of_decide_eq_false h2_; have := of_decide_eq_false h9; omega)
                            · refine hK _ _ ?_
                              refine wGNk (by rfl) (by rfl) (by rfl) fun K hK => ?_
                              refine hK _ _ ?_
                              refine w1k (by rfl) fun K hK => ?_
                              refine hK _ _ ?_
                              refine wnil ?_
                              refine wcond (by rfl) (fun h9 => ?_) (fun h9 => ?_)
                              · show wops _ _ _ _ _ _
                                refine w1k (by rfl) fun K hK => ?_
                                refine hK _ _ ?_
                                refine w1k (by rfl) fun K hK => ?_
                                refine hK _ _ ?_
                                refine w1k (by rfl) fun K hK => ?_
                                refine hK _ _ ?_
                                refine wGSk (by rfl) (by rfl) (by rfl) (fun h2_ K hK => ?_) (fun h2_ K hK => ?_)
                                · refine hK _ _ ?_
                                  refine wGYk (by rfl) (by rfl) (by rfl) fun K hK => ?_
                                  refine hK _ _ ?_
                                  refine w1k (by rfl) fun K hK => ?_
                                  refine hK _ _ ?_
                                  refine w1k (by rfl) fun K hK => ?_
                                  refine hK _ _ ?_
                                  refine wGSk (by rfl) (by rfl) (by rfl) (fun h6_ K hK => ?_) (fun h6_ K hK => ?_)
                                  · refine hK _ _ ?_
                                    refine wGYk (by rfl) (by rfl) (by rfl) fun K hK => ?_
                                    refine hK _ _ ?_
                                    refine w1k (by rfl) fun K hK => ?_
                                    refine hK _ _ ?_
                                    refine w1k (by rfl) fun K hK => ?_
                                    refine hK _ _ ?_
                                    refine wnil ?_
                                    exact ⟨[], ⟨by first | rfl | exact congrArg Value.bool (decide_eq_true rfl), rfl⟩, fun w' h => h.pick [0] rfl rfl⟩
                                  · exact absurd rfl (of_decide_eq_false h6_)
                                · exact absurd rfl (of_decide_eq_false h2_)
                              · cases h9
                        · exact absurd rfl (of_decide_eq_true h2_)
                  · refine call (fun w' hm => New_spec (sgX true (A')) w' (hT.mono (hm 0 _ rfl).whole)) ?_
                    rintro _ _ ⟨br, hr, kr, rfl, rfl, hR0⟩
                    refine callMO (i := 6) rfl (fun w0 w' hok => Number_spec w' (hok.mem 6 _ rfl) (Ok.kle2 (j := 7) (i := 6) hok (by decide) rfl rfl) hR0) ?_
                    rintro _ hr1 _ ⟨rfl, rfl, hR1⟩
                    generalize numR (newR (sgX true (A'))) = RA at *
                    obtain ⟨rA, x⟩ := RA
                    obtain ⟨q1, q2⟩ := hQ.ok hcan hz
                    dsimp only at q1 q2 hR1
                    rw [q1]
                    refine callV (.tuple #[.int .i64 0, .int .i64 0, .int .i64 0]) (fun w' hm => Error_ok w' (hm 6 _ rfl) hR1 q2) ?_
                    refine hideQ (fun _ kz => kz _ _ ?_)
                    show wops _ _ _ _ _ _
                    refine w1k (by rfl) fun K hK => ?_
                    refine hK _ _ ?_
                    refine w1k (by rfl) fun K hK => ?_
                    refine hK _ _ ?_
                    refine wnil ?_
                    refine wcond (by rfl) (fun h14 => ?_) (fun h14 => ?_)
                    · exact absurd h14 (by decide)
                    · show wops _ _ _ _ _ _
                      refine w1k (by rfl) fun K hK => ?_
                      refine hK _ _ ?_
                      refine w1k (by rfl) fun K hK => ?_
                      refine hK _ _ ?_
                      refine wGYk (by rfl) (by rfl) (by rfl) fun K hK => ?_
                      refine hK _ _ ?_
                      refine wGYk (by rfl) (by rfl) (by rfl) fun K hK => ?_
                      refine qEqS ?_
                      refine hK _ _ ?_
                      refine w1k (by rfl) fun K hK => ?_
                      refine hK _ _ ?_
                      refine wnil ?_
                      refine wcond (by rfl) (fun h9 => ?_) (fun h9 => ?_)
                      · exact absurd (sg_zero (of_decide_eq_true h9)) (hz rfl)
                      · refine call (fun w' hm => New_spec (sgX true (A')) w' (hT.mono (hm 0 _ rfl).whole)) ?_
                        rintro _ _ ⟨bq, hq, kq, rfl, rfl, hS0⟩
                        refine callMO (i := 8) rfl (fun w0 w' hok => Int_spec w' (hok.mem 8 _ rfl) (Ok.kle2 (j := 9) (i := 8) hok (by decide) rfl rfl) hS0) ?_
                        rintro _ hq1 _ ⟨rfl, rfl, hS1⟩
                        generalize intR (newR (sgX true (A'))) (-1000) 1000 = RB at *
                        obtain ⟨rB, kv⟩ := RB
                        obtain ⟨p1, p2⟩ := hQ.near hcan hz hf
                        dsimp only at p1 p2 hS1
                        have p2 : kv = -(a : Int) := p2
                        subst p2
                        refine callV (.tuple #[.int .i64 0, .int .i64 0, .int .i64 0]) (fun w' hm => Error_ok w' (hm 8 _ rfl) hS1 p1) ?_
                        refine hideQ (fun _ kz => kz _ _ ?_)
                        show wops _ _ _ _ _ _
                        refine w1k (by rfl) fun K hK => ?_
                        refine hK _ _ ?_
                        refine w1k (by rfl) fun K hK => ?_
                        refine hK _ _ ?_
                        refine w1k (by rfl) fun K hK => ?_
                        refine hK _ _ ?_
                        refine wGSk (by rfl) (by rfl) (by rfl) (fun h2_ K hK => ?_) (fun h2_ K hK => ?_)
                        · refine hK _ _ ?_
                          refine wGYk (by rfl) (by rfl) (by rfl) fun K hK => ?_
                          refine hK _ _ ?_
                          refine wGYk (by rfl) (by rfl) (by rfl) fun K hK => ?_
                          refine qNeS ?_
                          refine hK _ _ ?_
                          refine w1k (by rfl) fun K hK => ?_
                          refine hK _ _ ?_
                          refine wnil ?_
                          refine wcond (by rfl) (fun h9 => ?_) (fun h9 => ?_)
                          · exact absurd rfl (of_decide_eq_true h9)
                          · show wops _ _ _ _ _ _
                            refine w1k (by rfl) fun K hK => ?_
                            refine hK _ _ ?_
                            refine w1k (by rfl) fun K hK => ?_
                            refine hK _ _ ?_
                            refine w1k (by rfl) fun K hK => ?_
                            refine hK _ _ ?_
                            refine wGSk (by rfl) (by rfl) (by rfl) (fun h2_ K hK => ?_) (fun h2_ K hK => ?_)
                            · refine hK _ _ ?_
                              refine wGYk (by rfl) (by rfl) (by rfl) fun K hK => ?_
                              refine hK _ _ ?_
                              refine w1k (by rfl) fun K hK => ?_
                              refine hK _ _ ?_
                              refine wnil ?_
                              refine wcond (by rfl) (fun h9 => ?_) (fun h9 => ?_)
                              · exact absurd (.inr (by have := of_decide_eq_true h9; omega)) hf
                              · show wops _ _ _ _ _ _
                                refine w1k (by rfl) fun K hK => ?_
                                refine hK _ _ ?_
                                refine w1k (by rfl) fun K hK => ?_
                                refine hK _ _ ?_
                                refine w1k (by rfl) fun K hK => ?_
                                refine hK _ _ ?_
                                refine wGSk (by rfl) (by rfl) (by rfl) (fun h2_ K hK => ?_) (fun h2_ K hK => ?_)
                                · refine hK _ _ ?_
                                  refine wGYk (by rfl) (by rfl) (by rfl) fun K hK => ?_
                                  refine hK _ _ ?_
                                  refine wGYk (by rfl) (by rfl) (by rfl) fun K hK => ?_
                                  refine hK _ _ ?_
                                  refine wGYk (by rfl) (by rfl) (by rfl) fun K hK => ?_
                                  refine hK _ _ ?_
                                  refine wGYk (by rfl) (by rfl) (by rfl) fun K hK => ?_
                                  refine nwEq (y := -(a : Int)) (by omega) (by omega) (by omega) ?_
                                  refine hK _ _ ?_
                                  refine wGYk (by rfl) (by rfl) (by rfl) fun K hK => ?_
                                  refine hK _ _ ?_
                                  refine wGYk (by rfl) (by rfl) (by rfl) fun K hK => ?_
                                  refine hK _ _ ?_
                                  refine wGYk (by rfl) (by rfl) (by rfl) fun K hK => ?_
                                  refine hK _ _ ?_
                                  refine wGSk (by rfl) (by rfl) (by rfl) (fun h10_ K hK => ?_) (fun h10_ K hK => ?_)
                                  · exact absurd rfl (of_decide_eq_false h10_)
                                  · refine hK _ _ ?_
                                    refine wGNk (by rfl) (by rfl) (by rfl) fun K hK => ?_
                                    refine hK _ _ ?_
                                    refine wGNk (by rfl) (by rfl) (by rfl) fun K hK => ?_
                                    refine hK _ _ ?_
                                    refine wGUk (by rfl) (by rfl) (by rfl) fun K hK => ?_
                                    refine hK _ _ ?_
                                    refine wGUk (by rfl) (by rfl) (by rfl) fun K hK => ?_
                                    refine hK _ _ ?_
                                    refine wGUk (by rfl) (by rfl) (by rfl) fun K hK => ?_
                                    refine hK _ _ ?_
                                    refine wGNk (by rfl) (by rfl) (by rfl) fun K hK => ?_
                                    refine hK _ _ ?_
                                    refine wGYk (by rfl) (by rfl) (by rfl) fun K hK => ?_
                                    refine hK _ _ ?_
                                    refine w1k (by rfl) fun K hK => ?_
                                    refine hK _ _ ?_
                                    refine w1k (by rfl) fun K hK => ?_
                                    refine hK _ _ ?_
                                    refine wnil ?_
                                    exact ⟨[], ⟨by first | rfl | exact congrArg Value.bool (decide_eq_true rfl), rfl⟩, fun w' h => h.pick [0] rfl rfl⟩
                                · exact absurd rfl (of_decide_eq_false h2_)
                            · refine hK _ _ ?_
                              refine wGNk (by rfl) (by rfl) (by rfl) fun K hK => ?_
                              refine hK _ _ ?_
                              refine w1k (by rfl) fun K hK => ?_
                              refine hK _ _ ?_
                              refine wnil ?_
                              exact absurd (.inl (by have := of_decide_eq_true h2_; omega)) hf
                        · exact absurd rfl (of_decide_eq_true h2_)
              · obtain rfl : minus = false := h91
                have hz : false = true → A' ≠ [48] := fun g => by cases g
                by_cases hf : 1 < b ∨ 1000 < a
                · refine call (fun w' hm => New_spec (sgX false (A')) w' (hT.mono (hm 0 _ rfl).whole)) ?_
                  rintro _ _ ⟨br, hr, kr, rfl, rfl, hR0⟩
                  refine callMO (i := 6) rfl (fun w0 w' hok => Number_spec w' (hok.mem 6 _ rfl) (Ok.kle2 (j := 7) (i := 6) hok (by decide) rfl rfl) hR0) ?_
                  rintro _ hr1 _ ⟨rfl, rfl, hR1⟩
                  generalize numR (newR (sgX false (A'))) = RA at *
                  obtain ⟨rA, x⟩ := RA
                  obtain ⟨q1, q2⟩ := hQ.ok hcan hz
                  dsimp only at q1 q2 hR1
                  rw [q1]
                  refine callV (.tuple #[.int .i64 0, .int .i64 0, .int .i64 0]) (fun w' hm => Error_ok w' (hm 6 _ rfl) hR1 q2) ?_
                  refine hideQ (fun _ kz => kz _ _ ?_)
                  show wops _ _ _ _ _ _
                  refine w1k (by rfl) fun K hK => ?_
                  refine hK _ _ ?_
                  refine w1k (by rfl) fun K hK => ?_
                  refine hK _ _ ?_
                  refine wnil ?_
                  refine wcond (by rfl) (fun h14 => ?_) (fun h14 => ?_)
                  · exact absurd h14 (by decide)
                  · show wops _ _ _ _ _ _
                    refine w1k (by rfl) fun K hK => ?_
                    refine hK _ _ ?_
                    refine w1k (by rfl) fun K hK => ?_
                    refine hK _ _ ?_
                    refine wGNk (by rfl) (by rfl) (by rfl) fun K hK => ?_
                    refine hK _ _ ?_
                    refine wGNk (by rfl) (by rfl) (by rfl) fun K hK => ?_
                    refine hK _ _ ?_
                    refine w1k (by rfl) fun K hK => ?_
                    refine hK _ _ ?_
                    refine wnil ?_
                    refine wcond (by rfl) (fun h9 => ?_) (fun h9 => ?_)
                    · cases h9
                    · refine call (fun w' hm => New_spec (sgX false (A')) w' (hT.mono (hm 0 _ rfl).whole)) ?_
                      rintro _ _ ⟨bq, hq, kq, rfl, rfl, hS0⟩
                      refine callMO (i := 8) rfl (fun w0 w' hok => Int_spec w' (hok.mem 8 _ rfl) (Ok.kle2 (j := 9) (i := 8) hok (by decide) rfl rfl) hS0) ?_
                      rintro _ hq1 _ ⟨rfl, rfl, hS1⟩
                      generalize intR (newR (sgX false (A'))) (-1000) 1000 = RB at *
                      obtain ⟨rB, kv⟩ := RB
                      obtain ⟨p1, p2, p3⟩ := hQ.far hcan hz hf
                      dsimp only at p1 p2 p3 hS1
                      subst p1
                      refine callV (.tuple #[.int .i64 rB.ln, .int .i64 1, .int .i64 2]) (fun w' hm => Error_of w' (hm 8 _ rfl) hS1 p2 (by decide) (z := 1) (c := 1) p3 rfl) ?_
                      refine hideQ (fun _ kz => kz _ _ ?_)
                      show wops _ _ _ _ _ _
                      refine w1k (by rfl) fun K hK => ?_
                      refine hK _ _ ?_
                      refine w1k (by rfl) fun K hK => ?_
                      refine hK _ _ ?_
                      refine w1k (by rfl) fun K hK => ?_
                      refine hK _ _ ?_
                      refine wGSk (by rfl) (by rfl) (by rfl) (fun h2_ K hK => ?_) (fun h2_ K hK => ?_)
                      · refine hK _ _ ?_
                        refine wGYk (by rfl) (by rfl) (by rfl) fun K hK => ?_
                        refine hK _ _ ?_
                        refine wGYk (by rfl) (by rfl) (by rfl) fun K hK => ?_
                        refine qNeS ?_
                        refine hK _ _ ?_
                        refine w1k (by rfl) fun K hK => ?_
                        refine hK _ _ ?_
                        refine wnil ?_
                        refine wcond (by rfl) (fun h9 => ?_) (fun h9 => ?_)
                        · exact absurd rfl (of_decide_eq_true h9)
                        · show wops _ _ _ _ _ _
                          refine w1k (by rfl) fun K hK => ?_
                          refine hK _ _ ?_
                          refine w1k (by rfl) fun K hK => ?_
                          refine hK _ _ ?_
                          refine w1k (by rfl) fun K hK => ?_
                          refine hK _ _ ?_
                          refine wGSk (by rfl) (by rfl) (by rfl) (fun h2_ K hK => ?_) (fun h2_ K hK => ?_)
                          · refine hK _ _ ?_
                            refine wGYk (by rfl) (by rfl) (by rfl) fun K hK => ?_
                            refine hK _ _ ?_
                            refine w1k (by rfl) fun K hK => ?_
                            refine hK _ _ ?_
                            refine wnil ?_
                            refine wcond (by rfl) (fun h9 => ?_) (fun h9 => ?_)
                            · show wops _ _ _ _ _ _
                              refine w1k (by rfl) fun K hK => ?_
                              refine hK _ _ ?_
                              refine w1k (by rfl) fun K hK => ?_
                              refine hK _ _ ?_
                              refine w1k (by rfl) fun K hK => ?_
                              refine hK _ _ ?_
                              refine wGSk (by rfl) (by rfl) (by rfl) (fun h2_ K hK => ?_) (fun h2_ K hK => ?_)
                              · refine hK _ _ ?_
                                refine wGYk (by rfl) (by rfl) (by rfl) fun K hK => ?_
                                refine hK _ _ ?_
                                refine w1k (by rfl) fun K hK => ?_
                                refine hK _ _ ?_
                                refine w1k (by rfl) fun K hK => ?_
                                refine hK _ _ ?_
                                refine wGSk (by rfl) (by rfl) (by rfl) (fun h6_ K hK => ?_) (fun h6_ K hK => ?_)
                                · refine hK _ _ ?_
                                  refine wGYk (by rfl) (by rfl) (by rfl) fun K hK => ?_
                                  refine hK _ _ ?_
                                  refine w1k (by rfl) fun K hK => ?_
                                  refine hK _ _ ?_
                                  refine w1k (by rfl) fun K hK => ?_
                                  refine hK _ _ ?_
                                  refine wnil ?_
                                  exact ⟨[], ⟨by first | rfl | exact congrArg Value.bool (decide_eq_true rfl), rfl⟩, fun w' h => h.pick [0] rfl rfl⟩
                                · exact absurd rfl (of_decide_eq_false h6_)
                              · exact absurd rfl (of_decide_eq_false h2_)
                            · exact absurd hf (by have := of_decide_eq_false h2_; have := of_decide_eq_false h9; omega)
                          · refine hK _ _ ?_
                            refine wGNk (by rfl) (by rfl) (by rfl) fun K hK => ?_
                            refine hK _ _ ?_
                            refine w1k (by rfl) fun K hK => ?_
                            refine hK _ _ ?_
                            refine wnil ?_
                            refine wcond (by rfl) (fun h9 => ?_) (fun h9 => ?_)
                            · show wops _ _ _ _ _ _
                              refine w1k (by rfl) fun K hK => ?_
                              refine hK _ _ ?_
                              refine w1k (by rfl) fun K hK => ?_
                              refine hK _ _ ?_
                              refine w1k (by rfl) fun K hK => ?_
                              refine hK _ _ ?_
                              refine wGSk (by rfl) (by rfl) (by rfl) (fun h2_ K hK => ?_) (fun h2_ K hK => ?_)
                              · refine hK _ _ ?_
                                refine wGYk (by rfl) (by rfl) (by rfl) fun K hK => ?_
                                refine hK _ _ ?_
                                refine w1k (by rfl) fun K hK => ?_
                                refine hK _ _ ?_
                                refine w1k (by rfl) fun K hK => ?_
                                refine hK _ _ ?_
                                refine wGSk (by rfl) (by rfl) (by rfl) (fun h6_ K hK => ?_) (fun h6_ K hK => ?_)
                                · refine hK _ _ ?_
                                  refine wGYk (by rfl) (by rfl) (by rfl) fun K hK => ?_
                                  refine hK _ _ ?_
                                  refine w1k (by rfl) fun K hK => ?_
                                  refine hK _ _ ?_
                                  refine w1k (by rfl) fun K hK => ?_
                                  refine hK _ _ ?_
                                  refine wnil ?_
                                  exact ⟨[], ⟨by first | rfl | exact congrArg Value.bool (decide_eq_true rfl), rfl⟩, fun w' h => h.pick [0] rfl rfl⟩
                                · exact absurd rfl (of_decide_eq_false h6_)
                              · exact absurd rfl (of_decide_eq_false h2_)
                            · cases h9
                      · exact absurd rfl (of_decide_eq_true h2_)
                · refine call (fun w' hm => New_spec (sgX false (A')) w' (hT.mono (hm 0 _ rfl).whole)) ?_
                  rintro _ _ ⟨br, hr, kr, rfl, rfl, hR0⟩
                  refine callMO (i := 6) rfl (fun w0 w' hok => Number_spec w' (hok.mem 6 _ rfl) (Ok.kle2 (j := 7) (i := 6) hok (by decide) rfl rfl) hR0) ?_
                  rintro _ hr1 _ ⟨rfl, rfl, hR1⟩
                  generalize numR (newR (sgX false (A'))) = RA at *
                  obtain ⟨rA, x⟩ := RA
                  obtain ⟨q1, q2⟩ := hQ.ok hcan hz
                  dsimp only at q1 q2 hR1
                  rw [q1]
                  refine callV (.tuple #[.int .i64 0, .int .i64 0, .int .i64 0]) (fun w' hm => Error_ok w' (hm 6 _ rfl) hR1 q2) ?_
                  refine hideQ (fun _ kz => kz _ _ ?_)
                  show wops _ _ _ _ _ _
                  refine w1k (by rfl) fun K hK => ?_
                  refine hK _ _ ?_
                  refine w1k (by rfl) fun K hK => ?_
                  refine hK _ _ ?_
                  refine wnil ?_
                  refine wcond (by rfl) (fun h14 => ?_) (fun h14 => ?_)
                  · exact absurd h14 (by decide)
                  · show wops _ _ _ _ _ _
                    refine w1k (by rfl) fun K hK => ?_
                    refine hK _ _ ?_
                    refine w1k (by rfl) fun K hK => ?_
                    refine hK _ _ ?_
                    refine wGNk (by rfl) (by rfl) (by rfl) fun K hK => ?_
                    refine hK _ _ ?_
                    refine wGNk (by rfl) (by rfl) (by rfl) fun K hK => ?_
                    refine hK _ _ ?_
                    refine w1k (by rfl) fun K hK => ?_
                    refine hK _ _ ?_
                    refine wnil ?_
                    refine wcond (by rfl) (fun h9 => ?_) (fun h9 => ?_)
                    · cases h9
                    · refine call (fun w' hm => New_spec (sgX false (A')) w' (hT.mono (hm 0 _ rfl).whole)) ?_
                      rintro _ _ ⟨bq, hq, kq, rfl, rfl, hS0⟩
                      refine callMO (i := 8) rfl (fun w0 w' hok => Int_spec w' (hok.mem 8 _ rfl) (Ok.kle2 (j := 9) (i := 8) hok (by decide) rfl rfl) hS0) ?_
                      rintro _ hq1 _ ⟨rfl, rfl, hS1⟩
                      generalize intR (newR (sgX false (A'))) (-1000) 1000 = RB at *
                      obtain ⟨rB, kv⟩ := RB
                      obtain ⟨p1, p2⟩ := hQ.near hcan hz hf
                      dsimp only at p1 p2 hS1
                      have p2 : kv = (a : Int) := p2
                      subst p2
                      refine callV (.tuple #[.int .i64 0, .int .i64 0, .int .i64 0]) (fun w' hm => Error_ok w' (hm 8 _ rfl) hS1 p1) ?_
                      refine hideQ (fun _ kz => kz _ _ ?_)
                      show wops _ _ _ _ _ _
                      refine w1k (by rfl) fun K hK => ?_
                      refine hK _ _ ?_
                      refine w1k (by rfl) fun K hK => ?_
                      refine hK _ _ ?_
                      refine w1k (by rfl) fun K hK => ?_
                      refine hK _ _ ?_
                      refine wGSk (by rfl) (by rfl) (by rfl) (fun h2_ K hK => ?_) (fun h2_ K hK => ?_)
                      · refine hK _ _ ?_
                        refine wGYk (by rfl) (by rfl) (by rfl) fun K hK => ?_
                        refine hK _ _ ?_
                        refine wGYk (by rfl) (by rfl) (by rfl) fun K hK => ?_
                        refine qNeS ?_
                        refine hK _ _ ?_
                        refine w1k (by rfl) fun K hK => ?_
                        refine hK _ _ ?_
                        refine wnil ?_
                        refine wcond (by rfl) (fun h9 => ?_) (fun h9 => ?_)
                        · exact absurd rfl (of_decide_eq_true h9)
                        · show wops _ _ _ _ _ _
                          refine w1k (by rfl) fun K hK => ?_
                          refine hK _ _ ?_
                          refine w1k (by rfl) fun K hK => ?_
                          refine hK _ _ ?_
                          refine w1k (by rfl) fun K hK => ?_
                          refine hK _ _ ?_
                          refine wGSk (by rfl) (by rfl) (by rfl) (fun h2_ K hK => ?_) (fun h2_ K hK => ?_)
                          · refine hK _ _ ?_
                            refine wGYk (by rfl) (by rfl) (by rfl) fun K hK => ?_
                            refine hK _ _ ?_
                            refine w1k (by rfl) fun K hK => ?_
                            refine hK _ _ ?_
                            refine wnil ?_
                            refine wcond (by rfl) (fun h9 => ?_) (fun h9 => ?_)
                            · exact absurd (.inr (by have := of_decide_eq_true h9; omega)) hf
                            · show wops _ _ _ _ _ _
                              refine w1k (by rfl) fun K hK => ?_
                              refine hK _ _ ?_
                              refine w1k (by rfl) fun K hK => ?_
                              refine hK _ _ ?_
                              refine w1k (by rfl) fun K hK => ?_
                              refine hK _ _ ?_
                              refine wGSk (by rfl) (by rfl) (by rfl) (fun h2_ K hK => ?_) (fun h2_ K hK => ?_)
                              · refine hK _ _ ?_
                                refine wGYk (by rfl) (by rfl) (by rfl) fun K hK => ?_
                                refine hK _ _ ?_
                                refine wGNk (by rfl) (by rfl) (by rfl) fun K hK => ?_
                                refine hK _ _ ?_
                                refine wGNk (by rfl) (by rfl) (by rfl) fun K hK => ?_
                                refine hK _ _ ?_
                                refine wGNk (by rfl) (by rfl) (by rfl) fun K hK => ?_
                                refine hK _ _ ?_
                                refine wGNk (by rfl) (by rfl) (by rfl) fun K hK => ?_
                                refine hK _ _ ?_
                                refine wGYk (by rfl) (by rfl) (by rfl) fun K hK => ?_
                                refine hK _ _ ?_
                                refine wGYk (by rfl) (by rfl) (by rfl) fun K hK => ?_
                                refine hK _ _ ?_
                                refine wGYk (by rfl) (by rfl) (by rfl) fun K hK => ?_
                                refine hK _ _ ?_
                                refine wGYk (by rfl) (by rfl) (by rfl) fun K hK => ?_
                                refine hK _ _ ?_
                                refine wGYk (by rfl) (by rfl) (by rfl) fun K hK => ?_
                                refine hK _ _ ?_
                                refine wGYk (by rfl) (by rfl) (by rfl) fun K hK => ?_
                                refine hK _ _ ?_
                                refine wGYk (by rfl) (by rfl) (by rfl) fun K hK => ?_
                                refine hK _ _ ?_
                                refine wGYk (by rfl) (by rfl) (by rfl) fun K hK => ?_
                                refine hK _ _ ?_
                                refine wGYk (by rfl) (by rfl) (by rfl) fun K hK => ?_
                                refine hK _ _ ?_
                                refine wGYk (by rfl) (by rfl) (by rfl) fun K hK => ?_
                                refine hK _ _ ?_
                                refine w1k (by rfl) fun K hK => ?_
                                refine hK _ _ ?_
                                refine w1k (by rfl) fun K hK => ?_
                                refine hK _ _ ?_
                                refine wnil ?_
                                exact ⟨[], ⟨by first | rfl | exact congrArg Value.bool (decide_eq_true rfl), rfl⟩, fun w' h => h.pick [0] rfl rfl⟩
                              · exact absurd rfl (of_decide_eq_false h2_)
                          · refine hK _ _ ?_
                            refine wGNk (by rfl) (by rfl) (by rfl) fun K hK => ?_
                            refine hK _ _ ?_
                            refine w1k (by rfl) fun K hK => ?_
                            refine hK _ _ ?_
                            refine wnil ?_
                            exact absurd (.inl (by have := of_decide_eq_true h2_; omega)) hf
                      · exact absurd rfl (of_decide_eq_true h2_)
          · exact absurd (of_decide_eq_false h5_) (by omega)
        · exact absurd (of_decide_eq_true h2_) (by omega)
      · have ha : a ≠ 0 := by have := of_decide_eq_false h9; omega
        show wops _ _ _ _ _ _
        refine w1k (by rfl) fun K hK => ?_
        refine hK _ _ ?_
        refine w1k (by rfl) fun K hK => ?_
        refine hK _ _ ?_
        refine w1k (by rfl) fun K hK => ?_
        refine hK _ _ ?_
        refine wGSk (by rfl) (by rfl) (by rfl) (fun h2_ K hK => ?_) (fun h2_ K hK => ?_)
        · refine hK _ _ ?_
          refine wGYk (by rfl) (by rfl) (by rfl) fun K hK => ?_
          refine hK _ _ ?_
          refine wGYk (by rfl) (by rfl) (by rfl) fun K hK => ?_
          refine hK _ _ ?_
          refine wGSk (by rfl) (by rfl) (by rfl) (fun h5_ K hK => ?_) (fun h5_ K hK => ?_)
          · refine hK _ _ ?_
            refine wGYk (by rfl) (by rfl) (by rfl) fun K hK => ?_
            refine hK _ _ ?_
            refine wGYk (by rfl) (by rfl) (by rfl) fun K hK => ?_
            refine hK _ _ ?_
            refine w1k (by rfl) fun K hK => ?_
            refine hK _ _ ?_
            refine w1k (by rfl) fun K hK => ?_
            refine hK _ _ ?_
            refine wGSk (by rfl) (by rfl) (by rfl) (fun h10_ K hK => ?_) (fun h10_ K hK => ?_)
            · refine hK _ _ ?_
              refine wGYk (by rfl) (by rfl) (by rfl) fun K hK => ?_
              refine hK _ _ ?_
              refine wGYk (by rfl) (by rfl) (by rfl) fun K hK => ?_
              refine hK _ _ ?_
              refine wGSk (by rfl) (by rfl) (by rfl) (fun h13_ K hK => ?_) (fun h13_ K hK => ?_)
              · exact absurd (of_decide_eq_true h13_) (by omega)
              · refine hK _ _ ?_
                refine wGNk (by rfl) (by rfl) (by rfl) fun K hK => ?_
                refine hK _ _ ?_
                refine wGYk (by rfl) (by rfl) (by rfl) fun K hK => ?_
                refine hK _ _ ?_
                refine w1k (by rfl) fun K hK => ?_
                refine hK _ _ ?_
                refine w1k (by rfl) fun K hK => ?_
                refine hK _ _ ?_
                refine wnil ?_
                have hQ := numbers_plain hA hB lA lB (by omega) minus
                rw [show ratX a b A B = A ++ 47 :: B from if_neg (by omega)] at hQ
                have hlt : (A ++ 47 :: B).length < 1000 := by rw [List.length_append, List.length_cons]; omega
                have hcan : ¬ canX a b := by unfold canX; omega
                show wops _ _ _ _ _ _
                refine w1k (by rfl) fun K hK => ?_
                refine hK _ _ ?_
                refine wnil ?_
                refine wcond (by rfl) (fun h91 => ?_) (fun h91 => ?_)
                · obtain rfl : minus = true := h91
                  show wops _ _ _ _ _ _
                  refine w1k (by rfl) fun K hK => ?_
                  refine hK _ _ ?_
                  refine w1k (by rfl) fun K hK => ?_
                  refine qAdd (ty := 9) (a := [45]) (b := A ++ 47 :: B) (by simp; omega) ?_
                  refine hK _ _ ?_
                  refine w1k (by rfl) fun K hK => ?_
                  refine hK _ _ ?_
                  refine wnil ?_
                  refine call (fun w' hm => New_spec (sgX true (A ++ 47 :: B)) w' (hT.mono (hm 0 _ rfl).whole)) ?_
                  rintro _ _ ⟨br, hr, kr, rfl, rfl, hR0⟩
                  refine callMO (i := 6) rfl (fun w0 w' hok => Number_spec w' (hok.mem 6 _ rfl) (Ok.kle2 (j := 7) (i := 6) hok (by decide) rfl rfl) hR0) ?_
                  rintro _ hr1 _ ⟨rfl, rfl, hR1⟩
                  generalize numR (newR (sgX true (A ++ 47 :: B))) = RA at *
                  obtain ⟨rA, x⟩ := RA
                  obtain ⟨q1, q2, q3⟩ := hQ.bad hcan
                  dsimp only at q1 q2 q3 hR1
                  subst q1
                  refine callV (.tuple #[.int .i64 rA.ln, .int .i64 2, .int .i64 3]) (fun w' hm => Error_of w' (hm 6 _ rfl) hR1 q2 (by decide) (z := 2) (c := 2) q3 rfl) ?_
                  refine hideQ (fun _ kz => kz _ _ ?_)
                  show wops _ _ _ _ _ _
                  refine w1k (by rfl) fun K hK => ?_
                  refine hK _ _ ?_
                  refine w1k (by rfl) fun K hK => ?_
                  refine hK _ _ ?_
                  refine wnil ?_
                  refine wcond (by rfl) (fun h14 => ?_) (fun h14 => ?_)
                  · show wops _ _ _ _ _ _
                    refine w1k (by rfl) fun K hK => ?_
                    refine hK _ _ ?_
                    refine w1k (by rfl) fun K hK => ?_
                    refine qEqS ?_
                    refine hK _ _ ?_
                    refine w1k (by rfl) fun K hK => ?_
                    refine hK _ _ ?_
                    refine wGSk (by rfl) (by rfl) (by rfl) (fun h2_ K hK => ?_) (fun h2_ K hK => ?_)
                    · refine hK _ _ ?_
                      refine wGYk (by rfl) (by rfl) (by rfl) fun K hK => ?_
                      refine hK _ _ ?_
                      refine w1k (by rfl) fun K hK => ?_
                      refine hK _ _ ?_
                      refine w1k (by rfl) fun K hK => ?_
                      refine hK _ _ ?_
                      refine wGSk (by rfl) (by rfl) (by rfl) (fun h6_ K hK => ?_) (fun h6_ K hK => ?_)
                      · refine hK _ _ ?_
                        refine wGYk (by rfl) (by rfl) (by rfl) fun K hK => ?_
                        refine hK _ _ ?_
                        refine wGYk (by rfl) (by rfl) (by rfl) fun K hK => ?_
                        refine hK _ _ ?_
                        refine wGYk (by rfl) (by rfl) (by rfl) fun K hK => ?_
                        refine qNeB ?_
                        refine hK _ _ ?_
                        refine w1k (by rfl) fun K hK => ?_
                        refine hK _ _ ?_
                        refine w1k (by rfl) fun K hK => ?_
                        refine hK _ _ ?_
                        refine wnil ?_
                        exact ⟨[], ⟨by first | rfl | exact congrArg Value.bool (decide_eq_true rfl), rfl⟩, fun w' h => h.pick [0] rfl rfl⟩
                      · exact absurd rfl (of_decide_eq_false h6_)
                    · exact absurd rfl (of_decide_eq_false h2_)
                  · exact absurd h14 (by decide)
                · obtain rfl : minus = false := h91
                  refine call (fun w' hm => New_spec (sgX false (A ++ 47 :: B)) w' (hT.mono (hm 0 _ rfl).whole)) ?_
                  rintro _ _ ⟨br, hr, kr, rfl, rfl, hR0⟩
                  refine callMO (i := 6) rfl (fun w0 w' hok => Number_spec w' (hok.mem 6 _ rfl) (Ok.kle2 (j := 7) (i := 6) hok (by decide) rfl rfl) hR0) ?_
                  rintro _ hr1 _ ⟨rfl, rfl, hR1⟩
                  generalize numR (newR (sgX false (A ++ 47 :: B))) = RA at *
                  obtain ⟨rA, x⟩ := RA
                  obtain ⟨q1, q2, q3⟩ := hQ.bad hcan
                  dsimp only at q1 q2 q3 hR1
                  subst q1
                  refine callV (.tuple #[.int .i64 rA.ln, .int .i64 1, .int .i64 3]) (fun w' hm => Error_of w' (hm 6 _ rfl) hR1 q2 (by decide) (z := 1) (c := 1) q3 rfl) ?_
                  refine hideQ (fun _ kz => kz _ _ ?_)
                  show wops _ _ _ _ _ _
                  refine w1k (by rfl) fun K hK => ?_
                  refine hK _ _ ?_
                  refine w1k (by rfl) fun K hK => ?_
                  refine hK _ _ ?_
                  refine wnil ?_
                  refine wcond (by rfl) (fun h14 => ?_) (fun h14 => ?_)
                  · show wops _ _ _ _ _ _
                    refine w1k (by rfl) fun K hK => ?_
                    refine hK _ _ ?_
                    refine w1k (by rfl) fun K hK => ?_
                    refine qEqS ?_
                    refine hK _ _ ?_
                    refine w1k (by rfl) fun K hK => ?_
                    refine hK _ _ ?_
                    refine wGSk (by rfl) (by rfl) (by rfl) (fun h2_ K hK => ?_) (fun h2_ K hK => ?_)
                    · refine hK _ _ ?_
                      refine wGYk (by rfl) (by rfl) (by rfl) fun K hK => ?_
                      refine hK _ _ ?_
                      refine w1k (by rfl) fun K hK => ?_
                      refine hK _ _ ?_
                      refine w1k (by rfl) fun K hK => ?_
                      refine hK _ _ ?_
                      refine wGSk (by rfl) (by rfl) (by rfl) (fun h6_ K hK => ?_) (fun h6_ K hK => ?_)
                      · refine hK _ _ ?_
                        refine wGYk (by rfl) (by rfl) (by rfl) fun K hK => ?_
                        refine hK _ _ ?_
                        refine wGYk (by rfl) (by rfl) (by rfl) fun K hK => ?_
                        refine hK _ _ ?_
                        refine wGYk (by rfl) (by rfl) (by rfl) fun K hK => ?_
                        refine qNeB ?_
                        refine hK _ _ ?_
                        refine w1k (by rfl) fun K hK => ?_
                        refine hK _ _ ?_
                        refine w1k (by rfl) fun K hK => ?_
                        refine hK _ _ ?_
                        refine wnil ?_
                        exact ⟨[], ⟨by first | rfl | exact congrArg Value.bool (decide_eq_true rfl), rfl⟩, fun w' h => h.pick [0] rfl rfl⟩
                      · exact absurd rfl (of_decide_eq_false h6_)
                    · exact absurd rfl (of_decide_eq_false h2_)
                  · exact absurd h14 (by decide)
            · exact absurd (of_decide_eq_true h10_) (by omega)
          · exact absurd (of_decide_eq_false h5_) (by omega)
        · exact absurd (of_decide_eq_true h2_) (by omega)
    · refine hK _ _ ?_
      refine wGNk (by rfl) (by rfl) (by rfl) fun K hK => ?_
      refine hK _ _ ?_
      refine wGYk (by rfl) (by rfl) (by rfl) fun K hK => ?_
      refine hK _ _ ?_
      refine w1k (by rfl) fun K hK => ?_
      refine hK _ _ ?_
      refine wnil ?_
      have hb : 1 < b := by have := of_decide_eq_false h2_; have := of_decide_eq_false h5_; omega
      refine wcond (by rfl) (fun h9 => ?_) (fun h9 => ?_)
      · cases h9
      · show wops _ _ _ _ _ _
        refine w1k (by rfl) fun K hK => ?_
        refine hK _ _ ?_
        refine w1k (by rfl) fun K hK => ?_
        refine hK _ _ ?_
        refine w1k (by rfl) fun K hK => ?_
        refine hK _ _ ?_
        refine wGSk (by rfl) (by rfl) (by rfl) (fun h2_ K hK => ?_) (fun h2_ K hK => ?_)
        · refine hK _ _ ?_
          refine wGYk (by rfl) (by rfl) (by rfl) fun K hK => ?_
          refine hK _ _ ?_
          refine wGYk (by rfl) (by rfl) (by rfl) fun K hK => ?_
          refine hK _ _ ?_
          refine wGSk (by rfl) (by rfl) (by rfl) (fun h5_ K hK => ?_) (fun h5_ K hK => ?_)
          · exact absurd (of_decide_eq_true h5_) (by omega)
          · refine hK _ _ ?_
            refine wGNk (by rfl) (by rfl) (by rfl) fun K hK => ?_
            refine hK _ _ ?_
            refine wGYk (by rfl) (by rfl) (by rfl) fun K hK => ?_
            refine hK _ _ ?_
            refine w1k (by rfl) fun K hK => ?_
            refine hK _ _ ?_
            refine w1k (by rfl) fun K hK => ?_
            refine hK _ _ ?_
            refine wGYk (by rfl) (by rfl) (by rfl) fun K hK => ?_
            refine hK _ _ ?_
            refine wGYk (by rfl) (by rfl) (by rfl) fun K hK => ?_
            refine hK _ _ ?_
            refine wGYk (by rfl) (by rfl) (by rfl) fun K hK => ?_
            refine hK _ _ ?_
            refine wGSk (by rfl) (by rfl) (by rfl) (fun h13_ K hK => ?_) (fun h13_ K hK => ?_)
            · refine hK _ _ ?_
              refine wGYk (by rfl) (by rfl) (by rfl) fun K hK => ?_
              refine hK _ _ ?_
              refine wGYk (by rfl) (by rfl) (by rfl) fun K hK => ?_
              refine hK _ _ ?_
              refine w1k (by rfl) fun K hK => ?_
              refine hK _ _ ?_
              refine w1k (by rfl) fun K hK => ?_
              refine hK _ _ ?_
              refine wnil ?_
              have hQ := numbers_plain hA hB lA lB (by omega) minus
              rw [show ratX a b A B = A ++ 47 :: B from if_neg (by omega)] at hQ
              have hlt : (A ++ 47 :: B).length < 1000 := by rw [List.length_append, List.length_cons]; omega
              by_cases hgc : gc = 1
              · have hcan : canX a b := .inr (.inr ⟨by omega, by rw [hG, hgc]⟩)
                subst hgc
                show wops _ _ _ _ _ _
                refine w1k (by rfl) fun K hK => ?_
                refine hK _ _ ?_
                refine wnil ?_
                refine wcond (by rfl) (fun h91 => ?_) (fun h91 => ?_)
                · obtain rfl : minus = true := h91
                  show wops _ _ _ _ _ _
                  refine w1k (by rfl) fun K hK => ?_
                  refine hK _ _ ?_
                  refine w1k (by rfl) fun K hK => ?_
                  refine qAdd (ty := 9) (a := [45]) (b := A ++ 47 :: B) (by simp; omega) ?_
                  refine hK _ _ ?_
                  refine w1k (by rfl) fun K hK => ?_
                  refine hK _ _ ?_
                  refine wnil ?_
                  have hz : true = true → A ++ 47 :: B ≠ [48] := fun _ e => by have := congrArg List.length e; rw [List.length_append, List.length_cons] at this; have := hA.pos; simp at *; omega
                  by_cases hf : 1 < b ∨ 1000 < a
                  · refine call (fun w' hm => New_spec (sgX true (A ++ 47 :: B)) w' (hT.mono (hm 0 _ rfl).whole)) ?_
                    rintro _ _ ⟨br, hr, kr, rfl, rfl, hR0⟩
                    refine callMO (i := 6) rfl (fun w0 w' hok => Number_spec w' (hok.mem 6 _ rfl) (Ok.kle2 (j := 7) (i := 6) hok (by decide) rfl rfl) hR0) ?_
                    rintro _ hr1 _ ⟨rfl, rfl, hR1⟩
                    generalize numR (newR (sgX true (A ++ 47 :: B))) = RA at *
                    obtain ⟨rA, x⟩ := RA
                    obtain ⟨q1, q2⟩ := hQ.ok hcan hz
                    dsimp only at q1 q2 hR1
                    rw [q1]
                    refine callV (.tuple #[.int .i64 0, .int .i64 0, .int .i64 0]) (fun w' hm => Error_ok w' (hm 6 _ rfl) hR1 q2) ?_
                    refine hideQ (fun _ kz => kz _ _ ?_)
                    show wops _ _ _ _ _ _
                    refine w1k (by rfl) fun K hK => ?_
                    refine hK _ _ ?_
                    refine w1k (by rfl) fun K hK => ?_
                    refine hK _ _ ?_
                    refine wnil ?_
                    refine wcond (by rfl) (fun h14 => ?_) (fun h14 => ?_)
                    · exact absurd h14 (by decide)
                    · show wops _ _ _ _ _ _
                      refine w1k (by rfl) fun K hK => ?_
                      refine hK _ _ ?_
                      refine w1k (by rfl) fun K hK => ?_
                      refine hK _ _ ?_
                      refine wGYk (by rfl) (by rfl) (by rfl) fun K hK => ?_
                      refine hK _ _ ?_
                      refine wGYk (by rfl) (by rfl) (by rfl) fun K hK => ?_
                      refine qEqS ?_
                      refine hK _ _ ?_
                      refine w1k (by rfl) fun K hK => ?_
                      refine hK _ _ ?_
                      refine wnil ?_
                      refine wcond (by rfl) (fun h9 => ?_) (fun h9 => ?_)
                      · exact absurd (sg_zero (of_decide_eq_true h9)) (hz rfl)
                      · refine call (fun w' hm => New_spec (sgX true (A ++ 47 :: B)) w' (hT.mono (hm 0 _ rfl).whole)) ?_
                        rintro _ _ ⟨bq, hq, kq, rfl, rfl, hS0⟩
                        refine callMO (i := 8) rfl (fun w0 w' hok => Int_spec w' (hok.mem 8 _ rfl) (Ok.kle2 (j := 9) (i := 8) hok (by decide) rfl rfl) hS0) ?_
                        rintro _ hq1 _ ⟨rfl, rfl, hS1⟩
                        generalize intR (newR (sgX true (A ++ 47 :: B))) (-1000) 1000 = RB at *
                        obtain ⟨rB, kv⟩ := RB
                        obtain ⟨p1, p2, p3⟩ := hQ.far hcan hz hf
                        dsimp only at p1 p2 p3 hS1
                        subst p1
                        refine callV (.tuple #[.int .i64 rB.ln, .int .i64 1, .int .i64 2]) (fun w' hm => Error_of w' (hm 8 _ rfl) hS1 p2 (by decide) (z := 1) (c := 1) p3 rfl) ?_
                        refine hideQ (fun _ kz => kz _ _ ?_)
                        show wops _ _ _ _ _ _
                        refine w1k (by rfl) fun K hK => ?_
                        refine hK _ _ ?_
                        refine w1k (by rfl) fun K hK => ?_
                        refine hK _ _ ?_
                        refine w1k (by rfl) fun K hK => ?_
                        refine hK _ _ ?_
                        refine wGSk (by rfl) (by rfl) (by rfl) (fun h2_ K hK => ?_) (fun h2_ K hK => ?_)
                        · refine hK _ _ ?_
                          refine wGYk (by rfl) (by rfl) (by rfl) fun K hK => ?_
                          refine hK _ _ ?_
                          refine wGYk (by rfl) (by rfl) (by rfl) fun K hK => ?_
                          refine qNeS ?_
                          refine hK _ _ ?_
                          refine w1k (by rfl) fun K hK => ?_
                          refine hK _ _ ?_
                          refine wnil ?_
                          refine wcond (by rfl) (fun h9 => ?_) (fun h9 => ?_)
                          · exact absurd rfl (of_decide_eq_true h9)
                          · show wops _ _ _ _ _ _
                            refine w1k (by rfl) fun K hK => ?_
                            refine hK _ _ ?_
                            refine w1k (by rfl) fun K hK => ?_
                            refine hK _ _ ?_
                            refine w1k (by rfl) fun K hK => ?_
                            refine hK _ _ ?_
                            refine wGSk (by rfl) (by rfl) (by rfl) (fun h2_ K hK => ?_) (fun h2_ K hK => ?_)
                            · refine hK _ _ ?_
                              refine wGYk (by rfl) (by rfl) (by rfl) fun K hK => ?_
                              refine hK _ _ ?_
                              refine w1k (by rfl) fun K hK => ?_
                              refine hK _ _ ?_
                              refine wnil ?_
                              refine wcond (by rfl) (fun h9 => ?_) (fun h9 => ?_)
                              · show wops _ _ _ _ _ _
                                refine w1k (by rfl) fun K hK => ?_
                                refine hK _ _ ?_
                                refine w1k (by rfl) fun K hK => ?_
                                refine hK _ _ ?_
                                refine w1k (by rfl) fun K hK => ?_
                                refine hK _ _ ?_
                                refine wGSk (by rfl) (by rfl) (by rfl) (fun h2_ K hK => ?_) (fun h2_ K hK => ?_)
                                · refine hK _ _ ?_
                                  refine wGYk (by rfl) (by rfl) (by rfl) fun K hK => ?_
                                  refine hK _ _ ?_
                                  refine w1k (by rfl) fun K hK => ?_
                                  refine hK _ _ ?_
                                  refine w1k (by rfl) fun K hK => ?_
                                  refine hK _ _ ?_
                                  refine wGSk (by rfl) (by rfl) (by rfl) (fun h6_ K hK => ?_) (fun h6_ K hK => ?_)
                                  · refine hK _ _ ?_
                                    refine wGYk (by rfl) (by rfl) (by rfl) fun K hK => ?_
                                    refine hK _ _ ?_
                                    refine w1k (by rfl) fun K hK => ?_
                                    refine hK _ _ ?_
                                    refine w1k (by rfl) fun K hK => ?_
                                    refine hK _ _ ?_
                                    refine wnil ?_
                                    exact ⟨[], ⟨by first | rfl | exact congrArg Value.bool (decide_eq_true rfl), rfl⟩, fun w' h => h.pick [0] rfl rfl⟩
                                  · exact absurd rfl (of_decide_eq_false h6_)
                                · exact absurd rfl (of_decide_eq_false h2_)
                              · exact absurd hf (by have := of_decide_eq_false h2_; have := of_decide_eq_false h9; omega)
                            · refine hK _ _ ?_
                              refine wGNk (by rfl) (by rfl) (by rfl) fun K hK => ?_
                              refine hK _ _ ?_
                              refine w1k (by rfl) fun K hK => ?_
                              refine hK _ _ ?_
                              refine wnil ?_
                              refine wcond (by rfl) (fun h9 => ?_) (fun h9 => ?_)
                              · show wops _ _ _ _ _ _
                                refine w1k (by rfl) fun K hK => ?_
                                refine hK _ _ ?_
                                refine w1k (by rfl) fun K hK => ?_
                                refine hK _ _ ?_
                                refine w1k (by rfl) fun K hK => ?_
                                refine hK _ _ ?_
                                refine wGSk (by rfl) (by rfl) (by rfl) (fun h2_ K hK => ?_) (fun h2_ K hK => ?_)
                                · refine hK _ _ ?_
                                  refine wGYk (by rfl) (by rfl) (by rfl) fun K hK => ?_
                                  refine hK _ _ ?_
                                  refine w1k (by rfl) fun K hK => ?_
                                  refine hK _ _ ?_
                                  refine w1k (by rfl) fun K hK => ?_
                                  refine hK _ _ ?_
                                  refine wGSk (by rfl) (by rfl) (by rfl) (fun h6_ K hK => ?_) (fun h6_ K hK => ?_)
                                  · refine hK _ _ ?_
                                    refine wGYk (by rfl) (by rfl) (by rfl) fun K hK => ?_
                                    refine hK _ _ ?_
                                    refine w1k (by rfl) fun K hK => ?_
                                    refine hK _ _ ?_
                                    refine w1k (by rfl) fun K hK => ?_
                                    refine hK _ _ ?_
                                    refine wnil ?_
                                    exact ⟨[], ⟨by first | rfl | exact congrArg Value.bool (decide_eq_true rfl), rfl⟩, fun w' h => h.pick [0] rfl rfl⟩
                                  · exact absurd rfl (of_decide_eq_false h6_)
                                · exact absurd rfl (of_decide_eq_false h2_)
                              · cases h9
                        · exact absurd rfl (of_decide_eq_true h2_)
                  · refine call (fun w' hm => New_spec (sgX true (A ++ 47 :: B)) w' (hT.mono (hm 0 _ rfl).whole)) ?_
                    rintro _ _ ⟨br, hr, kr, rfl, rfl, hR0⟩
                    refine callMO (i := 6) rfl (fun w0 w' hok => Number_spec w' (hok.mem 6 _ rfl) (Ok.kle2 (j := 7) (i := 6) hok (by decide) rfl rfl) hR0) ?_
                    rintro _ hr1 _ ⟨rfl, rfl, hR1⟩
                    generalize numR (newR (sgX true (A ++ 47 :: B))) = RA at *
                    obtain ⟨rA, x⟩ := RA
                    obtain ⟨q1, q2⟩ := hQ.ok hcan hz
                    dsimp only at q1 q2 hR1
                    rw [q1]
                    refine callV (.tuple #[.int .i64 0, .int .i64 0, .int .i64 0]) (fun w' hm => Error_ok w' (hm 6 _ rfl) hR1 q2) ?_
                    refine hideQ (fun _ kz => kz _ _ ?_)
                    show wops _ _ _ _ _ _
                    refine w1k (by rfl) fun K hK => ?_
                    refine hK _ _ ?_
                    refine w1k (by rfl) fun K hK => ?_
                    refine hK _ _ ?_
                    refine wnil ?_
                    refine wcond (by rfl) (fun h14 => ?_) (fun h14 => ?_)
                    · exact absurd h14 (by decide)
                    · show wops _ _ _ _ _ _
                      refine w1k (by rfl) fun K hK => ?_
                      refine hK _ _ ?_
                      refine w1k (by rfl) fun K hK => ?_
                      refine hK _ _ ?_
                      refine wGYk (by rfl) (by rfl) (by rfl) fun K hK => ?_
                      refine hK _ _ ?_
                      refine wGYk (by rfl) (by rfl) (by rfl) fun K hK => ?_
                      refine qEqS ?_
                      refine hK _ _ ?_
                      refine w1k (by rfl) fun K hK => ?_
                      refine hK _ _ ?_
                      refine wnil ?_
                      refine wcond (by rfl) (fun h9 => ?_) (fun h9 => ?_)
                      · exact absurd (sg_zero (of_decide_eq_true h9)) (hz rfl)
                      · refine call (fun w' hm => New_spec (sgX true (A ++ 47 :: B)) w' (hT.mono (hm 0 _ rfl).whole)) ?_
                        rintro _ _ ⟨bq, hq, kq, rfl, rfl, hS0⟩
                        refine callMO (i := 8) rfl (fun w0 w' hok => Int_spec w' (hok.mem 8 _ rfl) (Ok.kle2 (j := 9) (i := 8) hok (by decide) rfl rfl) hS0) ?_
                        rintro _ hq1 _ ⟨rfl, rfl, hS1⟩
                        generalize intR (newR (sgX true (A ++ 47 :: B))) (-1000) 1000 = RB at *
                        obtain ⟨rB, kv⟩ := RB
                        obtain ⟨p1, p2⟩ := hQ.near hcan hz hf
                        dsimp only at p1 p2 hS1
                        have p2 : kv = -(a : Int) := p2
                        subst p2
                        refine callV (.tuple #[.int .i64 0, .int .i64 0, .int .i64 0]) (fun w' hm => Error_ok w' (hm 8 _ rfl) hS1 p1) ?_
                        refine hideQ (fun _ kz => kz _ _ ?_)
                        show wops _ _ _ _ _ _
                        refine w1k (by rfl) fun K hK => ?_
                        refine hK _ _ ?_
                        refine w1k (by rfl) fun K hK => ?_
                        refine hK _ _ ?_
                        refine w1k (by rfl) fun K hK => ?_
                        refine hK _ _ ?_
                        refine wGSk (by rfl) (by rfl) (by rfl) (fun h2_ K hK => ?_) (fun h2_ K hK => ?_)
                        · refine hK _ _ ?_
                          refine wGYk (by rfl) (by rfl) (by rfl) fun K hK => ?_
                          refine hK _ _ ?_
                          refine wGYk (by rfl) (by rfl) (by rfl) fun K hK => ?_
                          refine qNeS ?_
                          refine hK _ _ ?_
                          refine w1k (by rfl) fun K hK => ?_
                          refine hK _ _ ?_
                          refine wnil ?_
                          refine wcond (by rfl) (fun h9 => ?_) (fun h9 => ?_)
                          · exact absurd rfl (of_decide_eq_true h9)
                          · show wops _ _ _ _ _ _
                            refine w1k (by rfl) fun K hK => ?_
                            refine hK _ _ ?_
                            refine w1k (by rfl) fun K hK => ?_
                            refine hK _ _ ?_
                            refine w1k (by rfl) fun K hK => ?_
                            refine hK _ _ ?_
                            refine wGSk (by rfl) (by rfl) (by rfl) (fun h2_ K hK => ?_) (fun h2_ K hK => ?_)
                            · refine hK _ _ ?_
                              refine wGYk (by rfl) (by rfl) (by rfl) fun K hK => ?_
                              refine hK _ _ ?_
                              refine w1k (by rfl) fun K hK => ?_
                              refine hK _ _ ?_
                              refine wnil ?_
                              refine wcond (by rfl) (fun h9 => ?_) (fun h9 => ?_)
                              · exact absurd (.inr (by have := of_decide_eq_true h9; omega)) hf
                              · show wops _ _ _ _ _ _
                                refine w1k (by rfl) fun K hK => ?_
                                refine hK _ _ ?_
                                refine w1k (by rfl) fun K hK => ?_
                                refine hK _ _ ?_
                                refine w1k (by rfl) fun K hK => ?_
                                refine hK _ _ ?_
                                refine wGSk (by rfl) (by rfl) (by rfl) (fun h2_ K hK => ?_) (fun h2_ K hK => ?_)
                                · refine hK _ _ ?_
                                  refine wGYk (by rfl) (by rfl) (by rfl) fun K hK => ?_
                                  refine hK _ _ ?_
                                  refine wGYk (by rfl) (by rfl) (by rfl) fun K hK => ?_
                                  refine hK _ _ ?_
                                  refine wGYk (by rfl) (by rfl) (by rfl) fun K hK => ?_
                                  refine hK _ _ ?_
                                  refine wGYk (by rfl) (by rfl) (by rfl) fun K hK => ?_
                                  refine nwEq (y := -(a : Int)) (by omega) (by omega) (by omega) ?_
                                  refine hK _ _ ?_
                                  refine wGYk (by rfl) (by rfl) (by rfl) fun K hK => ?_
                                  refine hK _ _ ?_
                                  refine wGYk (by rfl) (by rfl) (by rfl) fun K hK => ?_
                                  refine hK _ _ ?_
                                  refine wGYk (by rfl) (by rfl) (by rfl) fun K hK => ?_
                                  refine hK _ _ ?_
                                  refine wGSk (by rfl) (by rfl) (by rfl) (fun h10_ K hK => ?_) (fun h10_ K hK => ?_)
                                  · exact absurd rfl (of_decide_eq_false h10_)
                                  · refine hK _ _ ?_
                                    refine wGNk (by rfl) (by rfl) (by rfl) fun K hK => ?_
                                    refine hK _ _ ?_
                                    refine wGNk (by rfl) (by rfl) (by rfl) fun K hK => ?_
                                    refine hK _ _ ?_
                                    refine wGUk (by rfl) (by rfl) (by rfl) fun K hK => ?_
                                    refine hK _ _ ?_
                                    refine wGUk (by rfl) (by rfl) (by rfl) fun K hK => ?_
                                    refine hK _ _ ?_
                                    refine wGUk (by rfl) (by rfl) (by rfl) fun K hK => ?_
                                    refine hK _ _ ?_
                                    refine wGNk (by rfl) (by rfl) (by rfl) fun K hK => ?_
                                    refine hK _ _ ?_
                                    refine wGYk (by rfl) (by rfl) (by rfl) fun K hK => ?_
                                    refine hK _ _ ?_
                                    refine w1k (by rfl) fun K hK => ?_
                                    refine hK _ _ ?_
                                    refine w1k (by rfl) fun K hK => ?_
                                    refine hK _ _ ?_
                                    refine wnil ?_
                                    exact ⟨[], ⟨by first | rfl | exact congrArg Value.bool (decide_eq_true rfl), rfl⟩, fun w' h => h.pick [0] rfl rfl⟩
                                · exact absurd rfl (of_decide_eq_false h2_)
                            · refine hK _ _ ?_
                              refine wGNk (by rfl) (by rfl) (by rfl) fun K hK => ?_
                              refine hK _ _ ?_
                              refine w1k (by rfl) fun K hK => ?_
                              refine hK _ _ ?_
                              refine wnil ?_
                              exact absurd (.inl (by have := of_decide_eq_true h2_; omega)) hf
                        · exact absurd rfl (of_decide_eq_true h2_)
                · obtain rfl : minus = false := h91
                  have hz : false = true → A ++ 47 :: B ≠ [48] := fun g => by cases g
                  by_cases hf : 1 < b ∨ 1000 < a
                  · refine call (fun w' hm => New_spec (sgX false (A ++ 47 :: B)) w' (hT.mono (hm 0 _ rfl).whole)) ?_
                    rintro _ _ ⟨br, hr, kr, rfl, rfl, hR0⟩
                    refine callMO (i := 6) rfl (fun w0 w' hok => Number_spec w' (hok.mem 6 _ rfl) (Ok.kle2 (j := 7) (i := 6) hok (by decide) rfl rfl) hR0) ?_
                    rintro _ hr1 _ ⟨rfl, rfl, hR1⟩
                    generalize numR (newR (sgX false (A ++ 47 :: B))) = RA at *
                    obtain ⟨rA, x⟩ := RA
                    obtain ⟨q1, q2⟩ := hQ.ok hcan hz
                    dsimp only at q1 q2 hR1
                    rw [q1]
                    refine callV (.tuple #[.int .i64 0, .int .i64 0, .int .i64 0]) (fun w' hm => Error_ok w' (hm 6 _ rfl) hR1 q2) ?_
                    refine hideQ (fun _ kz => kz _ _ ?_)
                    show wops _ _ _ _ _ _
                    refine w1k (by rfl) fun K hK => ?_
                    refine hK _ _ ?_
                    refine w1k (by rfl) fun K hK => ?_
                    refine hK _ _ ?_
                    refine wnil ?_
                    refine wcond (by rfl) (fun h14 => ?_) (fun h14 => ?_)
                    · exact absurd h14 (by decide)
                    · show wops _ _ _ _ _ _
                      refine w1k (by rfl) fun K hK => ?_
                      refine hK _ _ ?_
                      refine w1k (by rfl) fun K hK => ?_
                      refine hK _ _ ?_
                      refine wGNk (by rfl) (by rfl) (by rfl) fun K hK => ?_
                      refine hK _ _ ?_
                      refine wGNk (by rfl) (by rfl) (by rfl) fun K hK => ?_
                      refine hK _ _ ?_
                      refine w1k (by rfl) fun K hK => ?_
                      refine hK _ _ ?_
                      refine wnil ?_
                      refine wcond (by rfl) (fun h9 => ?_) (fun h9 => ?_)
                      · cases h9
                      · refine call (fun w' hm => New_spec (sgX false (A ++ 47 :: B)) w' (hT.mono (hm 0 _ rfl).whole)) ?_
                        rintro _ _ ⟨bq, hq, kq, rfl, rfl, hS0⟩
                        refine callMO (i := 8) rfl (fun w0 w' hok => Int_spec w' (hok.mem 8 _ rfl) (Ok.kle2 (j := 9) (i := 8) hok (by decide) rfl rfl) hS0) ?_
                        rintro _ hq1 _ ⟨rfl, rfl, hS1⟩
                        generalize intR (newR (sgX false (A ++ 47 :: B))) (-1000) 1000 = RB at *
                        obtain ⟨rB, kv⟩ := RB
                        obtain ⟨p1, p2, p3⟩ := hQ.far hcan hz hf
                        dsimp only at p1 p2 p3 hS1
                        subst p1
                        refine callV (.tuple #[.int .i64 rB.ln, .int .i64 1, .int .i64 2]) (fun w' hm => Error_of w' (hm 8 _ rfl) hS1 p2 (by decide) (z := 1) (c := 1) p3 rfl) ?_
                        refine hideQ (fun _ kz => kz _ _ ?_)
                        show wops _ _ _ _ _ _
                        refine w1k (by rfl) fun K hK => ?_
                        refine hK _ _ ?_
                        refine w1k (by rfl) fun K hK => ?_
                        refine hK _ _ ?_
                        refine w1k (by rfl) fun K hK => ?_
                        refine hK _ _ ?_
                        refine wGSk (by rfl) (by rfl) (by rfl) (fun h2_ K hK => ?_) (fun h2_ K hK => ?_)
                        · refine hK _ _ ?_
                          refine wGYk (by rfl) (by rfl) (by rfl) fun K hK => ?_
                          refine hK _ _ ?_
                          refine wGYk (by rfl) (by rfl) (by rfl) fun K hK => ?_
                          refine qNeS ?_
                          refine hK _ _ ?_
                          refine w1k (by rfl) fun K hK => ?_
                          refine hK _ _ ?_
                          refine wnil ?_
                          refine wcond (by rfl) (fun h9 => ?_) (fun h9 => ?_)
                          · exact absurd rfl (of_decide_eq_true h9)
                          · show wops _ _ _ _ _ _
                            refine w1k (by rfl) fun K hK => ?_
                            refine hK _ _ ?_
                            refine w1k (by rfl) fun K hK => ?_
                            refine hK _ _ ?_
                            refine w1k (by rfl) fun K hK => ?_
                            refine hK _ _ ?_
                            refine wGSk (by rfl) (by rfl) (by rfl) (fun h2_ K hK => ?_) (fun h2_ K hK => ?_)
                            · refine hK _ _ ?_
                              refine wGYk (by rfl) (by rfl) (by rfl) fun K hK => ?_
                              refine hK _ _ ?_
                              refine w1k (by rfl) fun K hK => ?_
                              refine hK _ _ ?_
                              refine wnil ?_
                              refine wcond (by rfl) (fun h9 => ?_) (fun h9 => ?_)
                              · show wops _ _ _ _ _ _
                                refine w1k (by rfl) fun K hK => ?_
                                refine hK _ _ ?_
                                refine w1k (by rfl) fun K hK => ?_
                                refine hK _ _ ?_
                                refine w1k (by rfl) fun K hK => ?_
                                refine hK _ _ ?_
                                refine wGSk (by rfl) (by rfl) (by rfl) (fun h2_ K hK => ?_) (fun h2_ K hK => ?_)
                                · refine hK _ _ ?_
                                  refine wGYk (by rfl) (by rfl) (by rfl) fun K hK => ?_
                                  refine hK _ _ ?_
                                  refine w1k (by rfl) fun K hK => ?_
                                  refine hK _ _ ?_
                                  refine w1k (by rfl) fun K hK => ?_
                                  refine hK _ _ ?_
                                  refine wGSk (by rfl) (by rfl) (by rfl) (fun h6_ K hK => ?_) (fun h6_ K hK => ?_)
                                  · refine hK _ _ ?_
                                    refine wGYk (by rfl) (by rfl) (by rfl) fun K hK => ?_
                                    refine hK _ _ ?_
                                    refine w1k (by rfl) fun K hK => ?_
                                    refine hK _ _ ?_
                                    refine w1k (by rfl) fun K hK => ?_
                                    refine hK _ _ ?_
                                    refine wnil ?_
                                    exact ⟨[], ⟨by first | rfl | exact congrArg Value.bool (decide_eq_true rfl), rfl⟩, fun w' h => h.pick [0] rfl rfl⟩
                                  · exact absurd rfl (of_decide_eq_false h6_)
                                · exact absurd rfl (of_decide_eq_false h2_)
                              · exact absurd hf (by have := of_decide_eq_false h2_; have := of_decide_eq_false h9; omega)
                            · refine hK _ _ ?_
                              refine wGNk (by rfl) (by rfl) (by rfl) fun K hK => ?_
                              refine hK _ _ ?_
                              refine w1k (by rfl) fun K hK => ?_
                              refine hK _ _ ?_
                              refine wnil ?_
                              refine wcond (by rfl) (fun h9 => ?_) (fun h9 => ?_)
                              · show wops _ _ _ _ _ _
                                refine w1k (by rfl) fun K hK => ?_
                                refine hK _ _ ?_
                                refine w1k (by rfl) fun K hK => ?_
                                refine hK _ _ ?_
                                refine w1k (by rfl) fun K hK => ?_
                                refine hK _ _ ?_
                                refine wGSk (by rfl) (by rfl) (by rfl) (fun h2_ K hK => ?_) (fun h2_ K hK => ?_)
                                · refine hK _ _ ?_
                                  refine wGYk (by rfl) (by rfl) (by rfl) fun K hK => ?_
                                  refine hK _ _ ?_
                                  refine w1k (by rfl) fun K hK => ?_
                                  refine hK _ _ ?_
                                  refine w1k (by rfl) fun K hK => ?_
                                  refine hK _ _ ?_
                                  refine wGSk (by rfl) (by rfl) (by rfl) (fun h6_ K hK => ?_) (fun h6_ K hK => ?_)
                                  · refine hK _ _ ?_
                                    refine wGYk (by rfl) (by rfl) (by rfl) fun K hK => ?_
                                    refine hK _ _ ?_
                                    refine w1k (by rfl) fun K hK => ?_
                                    refine hK _ _ ?_
                                    refine w1k (by rfl) fun K hK => ?_
                                    refine hK _ _ ?_
                                    refine wnil ?_
                                    exact ⟨[], ⟨by first | rfl | exact congrArg Value.bool (decide_eq_true rfl), rfl⟩, fun w' h => h.pick [0] rfl rfl⟩
                                  · exact absurd rfl (of_decide_eq_false h6_)
                                · exact absurd rfl (of_decide_eq_false h2_)
                              · cases h9
                        · exact absurd rfl (of_decide_eq_true h2_)
                  · refine call (fun w' hm => New_spec (sgX false (A ++ 47 :: B)) w' (hT.mono (hm 0 _ rfl).whole)) ?_
                    rintro _ _ ⟨br, hr, kr, rfl, rfl, hR0⟩
                    refine callMO (i := 6) rfl (fun w0 w' hok => Number_spec w' (hok.mem 6 _ rfl) (Ok.kle2 (j := 7) (i := 6) hok (by decide) rfl rfl) hR0) ?_
                    rintro _ hr1 _ ⟨rfl, rfl, hR1⟩
                    generalize numR (newR (sgX false (A ++ 47 :: B))) = RA at *
                    obtain ⟨rA, x⟩ := RA
                    obtain ⟨q1, q2⟩ := hQ.ok hcan hz
                    dsimp only at q1 q2 hR1
                    rw [q1]
                    refine callV (.tuple #[.int .i64 0, .int .i64 0, .int .i64 0]) (fun w' hm => Error_ok w' (hm 6 _ rfl) hR1 q2) ?_
                    refine hideQ (fun _ kz => kz _ _ ?_)
                    show wops _ _ _ _ _ _
                    refine w1k (by rfl) fun K hK => ?_
                    refine hK _ _ ?_
                    refine w1k (by rfl) fun K hK => ?_
                    refine hK _ _ ?_
                    refine wnil ?_
                    refine wcond (by rfl) (fun h14 => ?_) (fun h14 => ?_)
                    · exact absurd h14 (by decide)
                    · show wops _ _ _ _ _ _
                      refine w1k (by rfl) fun K hK => ?_
                      refine hK _ _ ?_
                      refine w1k (by rfl) fun K hK => ?_
                      refine hK _ _ ?_
                      refine wGNk (by rfl) (by rfl) (by rfl) fun K hK => ?_
                      refine hK _ _ ?_
                      refine wGNk (by rfl) (by rfl) (by rfl) fun K hK => ?_
                      refine hK _ _ ?_
                      refine w1k (by rfl) fun K hK => ?_
                      refine hK _ _ ?_
                      refine wnil ?_
                      refine wcond (by rfl) (fun h9 => ?_) (fun h9 => ?_)
                      · cases h9
                      · refine call (fun w' hm => New_spec (sgX false (A ++ 47 :: B)) w' (hT.mono (hm 0 _ rfl).whole)) ?_
                        rintro _ _ ⟨bq, hq, kq, rfl, rfl, hS0⟩
                        refine callMO (i := 8) rfl (fun w0 w' hok => Int_spec w' (hok.mem 8 _ rfl) (Ok.kle2 (j := 9) (i := 8) hok (by decide) rfl rfl) hS0) ?_
                        rintro _ hq1 _ ⟨rfl, rfl, hS1⟩
                        generalize intR (newR (sgX false (A ++ 47 :: B))) (-1000) 1000 = RB at *
                        obtain ⟨rB, kv⟩ := RB
                        obtain ⟨p1, p2⟩ := hQ.near hcan hz hf
                        dsimp only at p1 p2 hS1
                        have p2 : kv = (a : Int) := p2
                        subst p2
                        refine callV (.tuple #[.int .i64 0, .int .i64 0, .int .i64 0]) (fun w' hm => Error_ok w' (hm 8 _ rfl) hS1 p1) ?_
                        refine hideQ (fun _ kz => kz _ _ ?_)
                        show wops _ _ _ _ _ _
                        refine w1k (by rfl) fun K hK => ?_
                        refine hK _ _ ?_
                        refine w1k (by rfl) fun K hK => ?_
                        refine hK _ _ ?_
                        refine w1k (by rfl) fun K hK => ?_
                        refine hK _ _ ?_
                        refine wGSk (by rfl) (by rfl) (by rfl) (fun h2_ K hK => ?_) (fun h2_ K hK => ?_)
                        · refine hK _ _ ?_
                          refine wGYk (by rfl) (by rfl) (by rfl) fun K hK => ?_
                          refine hK _ _ ?_
                          refine wGYk (by rfl) (by rfl) (by rfl) fun K hK => ?_
                          refine qNeS ?_
                          refine hK _ _ ?_
                          refine w1k (by rfl) fun K hK => ?_
                          refine hK _ _ ?_
                          refine wnil ?_
                          refine wcond (by rfl) (fun h9 => ?_) (fun h9 => ?_)
                          · exact absurd rfl (of_decide_eq_true h9)
                          · show wops _ _ _ _ _ _
                            refine w1k (by rfl) fun K hK => ?_
                            refine hK _ _ ?_
                            refine w1k (by rfl) fun K hK => ?_
                            refine hK _ _ ?_
                            refine w1k (by rfl) fun K hK => ?_
                            refine hK _ _ ?_
                            refine wGSk (by rfl) (by rfl) (by rfl) (fun h2_ K hK => ?_) (fun h2_ K hK => ?_)
                            · refine hK _ _ ?_
                              refine wGYk (by rfl) (by rfl) (by rfl) fun K hK => ?_
                              refine hK _ _ ?_
                              refine w1k (by rfl) fun K hK => ?_
                              refine hK _ _ ?_
                              refine wnil ?_
                              refine wcond (by rfl) (fun h9 => ?_) (fun h9 => ?_)
                              · exact absurd (.inr (by have := of_decide_eq_true h9; omega)) hf
                              · show wops _ _ _ _ _ _
                                refine w1k (by rfl) fun K hK => ?_
                                refine hK _ _ ?_
                                refine w1k (by rfl) fun K hK => ?_
                                refine hK _ _ ?_
                                refine w1k (by rfl) fun K hK => ?_
                                refine hK _ _ ?_
                                refine wGSk (by rfl) (by rfl) (by rfl) (fun h2_ K hK => ?_) (fun h2_ K hK => ?_)
                                · refine hK _ _ ?_
                                  refine wGYk (by rfl) (by rfl) (by rfl) fun K hK => ?_
                                  refine hK _ _ ?_
                                  refine wGNk (by rfl) (by rfl) (by rfl) fun K hK => ?_
                                  refine hK _ _ ?_
                                  refine wGNk (by rfl) (by rfl) (by rfl) fun K hK => ?_
                                  refine hK _ _ ?_
                                  refine wGNk (by rfl) (by rfl) (by rfl) fun K hK => ?_
                                  refine hK _ _ ?_
                                  refine wGNk (by rfl) (by rfl) (by rfl) fun K hK => ?_
                                  refine hK _ _ ?_
                                  refine wGYk (by rfl) (by rfl) (by rfl) fun K hK => ?_
                                  refine hK _ _ ?_
                                  refine wGYk (by rfl) (by rfl) (by rfl) fun K hK => ?_
                                  refine hK _ _ ?_
                                  refine wGYk (by rfl) (by rfl) (by rfl) fun K hK => ?_
                                  refine hK _ _ ?_
                                  refine wGYk (by rfl) (by rfl) (by rfl) fun K hK => ?_
                                  refine hK _ _ ?_
                                  refine wGYk (by rfl) (by rfl) (by rfl) fun K hK => ?_
                                  refine hK _ _ ?_
                                  refine wGYk (by rfl) (by rfl) (by rfl) fun K hK => ?_
                                  refine hK _ _ ?_
                                  refine wGYk (by rfl) (by rfl) (by rfl) fun K hK => ?_
                                  refine hK _ _ ?_
                                  refine wGYk (by rfl) (by rfl) (by rfl) fun K hK => ?_
                                  refine hK _ _ ?_
                                  refine wGYk (by rfl) (by rfl) (by rfl) fun K hK => ?_
                                  refine hK _ _ ?_
                                  refine wGYk (by rfl) (by rfl) (by rfl) fun K hK => ?_
                                  refine hK _ _ ?_
                                  refine w1k (by rfl) fun K hK => ?_
                                  refine hK _ _ ?_
                                  refine w1k (by rfl) fun K hK => ?_
                                  refine hK _ _ ?_
                                  refine wnil ?_
                                  exact ⟨[], ⟨by first | rfl | exact congrArg Value.bool (decide_eq_true rfl), rfl⟩, fun w' h => h.pick [0] rfl rfl⟩
                                · exact absurd rfl (of_decide_eq_false h2_)
                            · refine hK _ _ ?_
                              refine wGNk (by rfl) (by rfl) (by rfl) fun K hK => ?_
                              refine hK _ _ ?_
                              refine w1k (by rfl) fun K hK => ?_
                              refine hK _ _ ?_
                              refine wnil ?_
                              exact absurd (.inl (by have := of_decide_eq_true h2_; omega)) hf
                        · exact absurd rfl (of_decide_eq_true h2_)
              · have hcan : ¬ canX a b := by unfold canX; rw [hG]; omega
                show wops _ _ _ _ _ _
                refine w1k (by rfl) fun K hK => ?_
                refine hK _ _ ?_
                refine wnil ?_
                refine wcond (by rfl) (fun h91 => ?_) (fun h91 => ?_)
                · obtain rfl : minus = true := h91
                  show wops _ _ _ _ _ _
                  refine w1k (by rfl) fun K hK => ?_
                  refine hK _ _ ?_
                  refine w1k (by rfl) fun K hK => ?_
                  refine qAdd (ty := 9) (a := [45]) (b := A ++ 47 :: B) (by simp; omega) ?_
                  refine hK _ _ ?_
                  refine w1k (by rfl) fun K hK => ?_
                  refine hK _ _ ?_
                  refine wnil ?_
                  refine call (fun w' hm => New_spec (sgX true (A ++ 47 :: B)) w' (hT.mono (hm 0 _ rfl).whole)) ?_
                  rintro _ _ ⟨br, hr, kr, rfl, rfl, hR0⟩
                  refine callMO (i := 6) rfl (fun w0 w' hok => Number_spec w' (hok.mem 6 _ rfl) (Ok.kle2 (j := 7) (i := 6) hok (by decide) rfl rfl) hR0) ?_
                  rintro _ hr1 _ ⟨rfl, rfl, hR1⟩
                  generalize numR (newR (sgX true (A ++ 47 :: B))) = RA at *
                  obtain ⟨rA, x⟩ := RA
                  obtain ⟨q1, q2, q3⟩ := hQ.bad hcan
                  dsimp only at q1 q2 q3 hR1
                  subst q1
                  refine callV (.tuple #[.int .i64 rA.ln, .int .i64 2, .int .i64 3]) (fun w' hm => Error_of w' (hm 6 _ rfl) hR1 q2 (by decide) (z := 2) (c := 2) q3 rfl) ?_
                  refine hideQ (fun _ kz => kz _ _ ?_)
                  show wops _ _ _ _ _ _
                  refine w1k (by rfl) fun K hK => ?_
                  refine hK _ _ ?_
                  refine w1k (by rfl) fun K hK => ?_
                  refine hK _ _ ?_
                  refine wnil ?_
                  refine wcond (by rfl) (fun h14 => ?_) (fun h14 => ?_)
                  · show wops _ _ _ _ _ _
                    refine w1k (by rfl) fun K hK => ?_
                    refine hK _ _ ?_
                    refine w1k (by rfl) fun K hK => ?_
                    refine qEqS ?_
                    refine hK _ _ ?_
                    refine w1k (by rfl) fun K hK => ?_
                    refine hK _ _ ?_
                    refine wGSk (by rfl) (by rfl) (by rfl) (fun h2_ K hK => ?_) (fun h2_ K hK => ?_)
                    · refine hK _ _ ?_
                      refine wGYk (by rfl) (by rfl) (by rfl) fun K hK => ?_
                      refine hK _ _ ?_
                      refine w1k (by rfl) fun K hK => ?_
                      refine hK _ _ ?_
                      refine w1k (by rfl) fun K hK => ?_
                      refine hK _ _ ?_
                      refine wGSk (by rfl) (by rfl) (by rfl) (fun h6_ K hK => ?_) (fun h6_ K hK => ?_)
                      · refine hK _ _ ?_
                        refine wGYk (by rfl) (by rfl) (by rfl) fun K hK => ?_
                        refine hK _ _ ?_
                        refine wGYk (by rfl) (by rfl) (by rfl) fun K hK => ?_
                        refine hK _ _ ?_
                        refine wGYk (by rfl) (by rfl) (by rfl) fun K hK => ?_
                        refine qNeB ?_
                        refine hK _ _ ?_
                        refine w1k (by rfl) fun K hK => ?_
                        refine hK _ _ ?_
                        refine w1k (by rfl) fun K hK => ?_
                        refine hK _ _ ?_
                        refine wnil ?_
                        exact ⟨[], ⟨by first | rfl | exact congrArg Value.bool (decide_eq_true rfl), rfl⟩, fun w' h => h.pick [0] rfl rfl⟩
                      · exact absurd rfl (of_decide_eq_false h6_)
                    · exact absurd rfl (of_decide_eq_false h2_)
                  · exact absurd (show ((gc : Nat) : Int) = 1 by simpa using h14) (by omega)
                · obtain rfl : minus = false := h91
                  refine call (fun w' hm => New_spec (sgX false (A ++ 47 :: B)) w' (hT.mono (hm 0 _ rfl).whole)) ?_
                  rintro _ _ ⟨br, hr, kr, rfl, rfl, hR0⟩
                  refine callMO (i := 6) rfl (fun w0 w' hok => Number_spec w' (hok.mem 6 _ rfl) (Ok.kle2 (j := 7) (i := 6) hok (by decide) rfl rfl) hR0) ?_
                  rintro _ hr1 _ ⟨rfl, rfl, hR1⟩
                  generalize numR (newR (sgX false (A ++ 47 :: B))) = RA at *
                  obtain ⟨rA, x⟩ := RA
                  obtain ⟨q1, q2, q3⟩ := hQ.bad hcan
                  dsimp only at q1 q2 q3 hR1
                  subst q1
                  refine callV (.tuple #[.int .i64 rA.ln, .int .i64 1, .int .i64 3]) (fun w' hm => Error_of w' (hm 6 _ rfl) hR1 q2 (by decide) (z := 1) (c := 1) q3 rfl) ?_
                  refine hideQ (fun _ kz => kz _ _ ?_)
                  show wops _ _ _ _ _ _
                  refine w1k (by rfl) fun K hK => ?_
                  refine hK _ _ ?_
                  refine w1k (by rfl) fun K hK => ?_
                  refine hK _ _ ?_
                  refine wnil ?_
                  refine wcond (by rfl) (fun h14 => ?_) (fun h14 => ?_)
                  · show wops _ _ _ _ _ _
                    refine w1k (by rfl) fun K hK => ?_
                    refine hK _ _ ?_
                    refine w1k (by rfl) fun K hK => ?_
                    refine qEqS ?_
                    refine hK _ _ ?_
                    refine w1k (by rfl) fun K hK => ?_
                    refine hK _ _ ?_
                    refine wGSk (by rfl) (by rfl) (by rfl) (fun h2_ K hK => ?_) (fun h2_ K hK => ?_)
                    · refine hK _ _ ?_
                      refine wGYk (by rfl) (by rfl) (by rfl) fun K hK => ?_
                      refine hK _ _ ?_
                      refine w1k (by rfl) fun K hK => ?_
                      refine hK _ _ ?_
                      refine w1k (by rfl) fun K hK => ?_
                      refine hK _ _ ?_
                      refine wGSk (by rfl) (by rfl) (by rfl) (fun h6_ K hK => ?_) (fun h6_ K hK => ?_)
                      · refine hK _ _ ?_
                        refine wGYk (by rfl) (by rfl) (by rfl) fun K hK => ?_
                        refine hK _ _ ?_
                        refine wGYk (by rfl) (by rfl) (by rfl) fun K hK => ?_
                        refine hK _ _ ?_
                        refine wGYk (by rfl) (by rfl) (by rfl) fun K hK => ?_
                        refine qNeB ?_
                        refine hK _ _ ?_
                        refine w1k (by rfl) fun K hK => ?_
                        refine hK _ _ ?_
                        refine w1k (by rfl) fun K hK => ?_
                        refine hK _ _ ?_
                        refine wnil ?_
                        exact ⟨[], ⟨by first | rfl | exact congrArg Value.bool (decide_eq_true rfl), rfl⟩, fun w' h => h.pick [0] rfl rfl⟩
                      · exact absurd rfl (of_decide_eq_false h6_)
                    · exact absurd rfl (of_decide_eq_false h2_)
                  · exact absurd (show ((gc : Nat) : Int) = 1 by simpa using h14) (by omega)
            · exact absurd (of_decide_eq_false h13_) (by omega)
        · exact absurd (of_decide_eq_true h2_) (by omega)
  · refine hK _ _ ?_
    refine wGNk (by rfl) (by rfl) (by rfl) fun K hK => ?_
    refine hK _ _ ?_
    refine wGNk (by rfl) (by rfl) (by rfl) fun K hK => ?_
    refine hK _ _ ?_
    refine wGUk (by rfl) (by rfl) (by rfl) fun K hK => ?_
    refine hK _ _ ?_
    refine wGUk (by rfl) (by rfl) (by rfl) fun K hK => ?_
    refine hK _ _ ?_
    refine wGNk (by rfl) (by rfl) (by rfl) fun K hK => ?_
    refine hK _ _ ?_
    refine w1k (by rfl) fun K hK => ?_
    refine hK _ _ ?_
    refine wnil ?_
    have hb : b = 1 := by have := of_decide_eq_true h2_; omega
    refine wcond (by rfl) (fun h9 => ?_) (fun h9 => ?_)
    · refine call (fun w' hm => textInt_spec w' (hM1.mono (hm 1 _ rfl).whole) (by omega) (hP.mono (hm 0 _ rfl).whole)) ?_
      rintro _ _ ⟨rfl, A', rfl, hA', lA'⟩
      refine hideQ (fun _ kz => kz _ _ ?_)
      show wops _ _ _ _ _ _
      refine w1k (by rfl) fun K hK => ?_
      refine hK _ _ ?_
      refine w1k (by rfl) fun K hK => ?_
      refine hK _ _ ?_
      refine w1k (by rfl) fun K hK => ?_
      refine hK _ _ ?_
      refine wGSk (by rfl) (by rfl) (by rfl) (fun h2_ K hK => ?_) (fun h2_ K hK => ?_)
      · exact absurd (of_decide_eq_false h2_) (by omega)
      · refine hK _ _ ?_
        refine wGNk (by rfl) (by rfl) (by rfl) fun K hK => ?_
        refine hK _ _ ?_
        refine wGNk (by rfl) (by rfl) (by rfl) fun K hK => ?_
        refine hK _ _ ?_
        refine wGUk (by rfl) (by rfl) (by rfl) fun K hK => ?_
        refine hK _ _ ?_
        refine wGUk (by rfl) (by rfl) (by rfl) fun K hK => ?_
        refine hK _ _ ?_
        refine wGNk (by rfl) (by rfl) (by rfl) fun K hK => ?_
        refine hK _ _ ?_
        refine w1k (by rfl) fun K hK => ?_
        refine hK _ _ ?_
        refine w1k (by rfl) fun K hK => ?_
        refine hK _ _ ?_
        refine wGNk (by rfl) (by rfl) (by rfl) fun K hK => ?_
        refine hK _ _ ?_
        refine wGNk (by rfl) (by rfl) (by rfl) fun K hK => ?_
        refine hK _ _ ?_
        refine wGNk (by rfl) (by rfl) (by rfl) fun K hK => ?_
        refine hK _ _ ?_
        refine wGUk (by rfl) (by rfl) (by rfl) fun K hK => ?_
        refine hK _ _ ?_
        refine wGUk (by rfl) (by rfl) (by rfl) fun K hK => ?_
        refine hK _ _ ?_
        refine wGNk (by rfl) (by rfl) (by rfl) fun K hK => ?_
        refine hK _ _ ?_
        refine w1k (by rfl) fun K hK => ?_
        refine hK _ _ ?_
        refine w1k (by rfl) fun K hK => ?_
        refine hK _ _ ?_
        refine wnil ?_
        have hcan : canX a b := .inl hb
        have hQ := numbers_plain hA' hB lA' lB (by omega) minus
        rw [show ratX a b A' B = A' from if_pos (.inl hb)] at hQ
        show wops _ _ _ _ _ _
        refine w1k (by rfl) fun K hK => ?_
        refine hK _ _ ?_
        refine wnil ?_
        refine wcond (by rfl) (fun h91 => ?_) (fun h91 => ?_)
        · obtain rfl : minus = true := h91
          show wops _ _ _ _ _ _
          refine w1k (by rfl) fun K hK => ?_
          refine hK _ _ ?_
          refine w1k (by rfl) fun K hK => ?_
          refine qAdd (ty := 9) (a := [45]) (b := A') (by simp; omega) ?_
          refine hK _ _ ?_
          refine w1k (by rfl) fun K hK => ?_
          refine hK _ _ ?_
          refine wnil ?_
          by_cases hz : A' = [48]
          · refine call (fun w' hm => New_spec (sgX true (A')) w' (hT.mono (hm 0 _ rfl).whole)) ?_
            rintro _ _ ⟨br, hr, kr, rfl, rfl, hR0⟩
            refine callMO (i := 6) rfl (fun w0 w' hok => Number_spec w' (hok.mem 6 _ rfl) (Ok.kle2 (j := 7) (i := 6) hok (by decide) rfl rfl) hR0) ?_
            rintro _ hr1 _ ⟨rfl, rfl, hR1⟩
            generalize numR (newR (sgX true (A'))) = RA at *
            obtain ⟨rA, x⟩ := RA
            obtain ⟨q1, q2, q3⟩ := hQ.zero hcan rfl hz
            dsimp only at q1 q2 q3 hR1
            subst q1
            refine callV (.tuple #[.int .i64 rA.ln, .int .i64 2, .int .i64 3]) (fun w' hm => Error_of w' (hm 6 _ rfl) hR1 q2 (by decide) (z := 2) (c := 2) q3 rfl) ?_
            refine hideQ (fun _ kz => kz _ _ ?_)
            show wops _ _ _ _ _ _
            refine w1k (by rfl) fun K hK => ?_
            refine hK _ _ ?_
            refine w1k (by rfl) fun K hK => ?_
            refine hK _ _ ?_
            refine wnil ?_
            refine wcond (by rfl) (fun h14 => ?_) (fun h14 => ?_)
            · exact absurd h14 (by decide)
            · show wops _ _ _ _ _ _
              refine w1k (by rfl) fun K hK => ?_
              refine hK _ _ ?_
              refine w1k (by rfl) fun K hK => ?_
              refine hK _ _ ?_
              refine wGYk (by rfl) (by rfl) (by rfl) fun K hK => ?_
              refine hK _ _ ?_
              refine wGYk (by rfl) (by rfl) (by rfl) fun K hK => ?_
              refine qEqS ?_
              refine hK _ _ ?_
              refine w1k (by rfl) fun K hK => ?_
              refine hK _ _ ?_
              refine wnil ?_
              refine wcond (by rfl) (fun h9 => ?_) (fun h9 => ?_)
              · show wops _ _ _ _ _ _
                refine w1k (by rfl) fun K hK => ?_
                refine hK _ _ ?_
                refine w1k (by rfl) fun K hK => ?_
                refine qEqS ?_
                refine hK _ _ ?_
                refine w1k (by rfl) fun K hK => ?_
                refine hK _ _ ?_
                refine wGSk (by rfl) (by rfl) (by rfl) (fun h2_ K hK => ?_) (fun h2_ K hK => ?_)
                · refine hK _ _ ?_
                  refine wGYk (by rfl) (by rfl) (by rfl) fun K hK => ?_
                  refine hK _ _ ?_
                  refine w1k (by rfl) fun K hK => ?_
                  refine hK _ _ ?_
                  refine w1k (by rfl) fun K hK => ?_
                  refine hK _ _ ?_
                  refine wGSk (by rfl) (by rfl) (by rfl) (fun h6_ K hK => ?_) (fun h6_ K hK => ?_)
                  · refine hK _ _ ?_
                    refine wGYk (by rfl) (by rfl) (by rfl) fun K hK => ?_
                    refine hK _ _ ?_
                    refine w1k (by rfl) fun K hK => ?_
                    refine hK _ _ ?_
                    refine w1k (by rfl) fun K hK => ?_
                    refine hK _ _ ?_
                    refine wnil ?_
                    exact ⟨[], ⟨by first | rfl | exact congrArg Value.bool (decide_eq_true rfl), rfl⟩, fun w' h => h.pick [0] rfl rfl⟩
                  · exact absurd rfl (of_decide_eq_false h6_)
                · exact absurd rfl (of_decide_eq_false h2_)
              · exact absurd (by rw [hz]; rfl) (of_decide_eq_false h9)
          · have hz : true = true → A' ≠ [48] := fun _ => hz
            by_cases hf : 1 < b ∨ 1000 < a
            · refine call (fun w' hm => New_spec (sgX true (A')) w' (hT.mono (hm 0 _ rfl).whole)) ?_
              rintro _ _ ⟨br, hr, kr, rfl, rfl, hR0⟩
              refine callMO (i := 6) rfl (fun w0 w' hok => Number_spec w' (hok.mem 6 _ rfl) (Ok.kle2 (j := 7) (i := 6) hok (by decide) rfl rfl) hR0) ?_
              rintro _ hr1 _ ⟨rfl, rfl, hR1⟩
              generalize numR (newR (sgX true (A'))) = RA at *
              obtain ⟨rA, x⟩ := RA
              obtain ⟨q1, q2⟩ := hQ.ok hcan hz
              dsimp only at q1 q2 hR1
              rw [q1]
              refine callV (.tuple #[.int .i64 0, .int .i64 0, .int .i64 0]) (fun w' hm => Error_ok w' (hm 6 _ rfl) hR1 q2) ?_
              refine hideQ (fun _ kz => kz _ _ ?_)
              show wops _ _ _ _ _ _
              refine w1k (by rfl) fun K hK => ?_
              refine hK _ _ ?_
              refine w1k (by rfl) fun K hK => ?_
              refine hK _ _ ?_
              refine wnil ?_
              refine wcond (by rfl) (fun h14 => ?_) (fun h14 => ?_)
              · exact absurd h14 (by decide)
              · show wops _ _ _ _ _ _
                refine w1k (by rfl) fun K hK => ?_
                refine hK _ _ ?_
                refine w1k (by rfl) fun K hK => ?_
                refine hK _ _ ?_
                refine wGYk (by rfl) (by rfl) (by rfl) fun K hK => ?_
                refine hK _ _ ?_
                refine wGYk (by rfl) (by rfl) (by rfl) fun K hK => ?_
                refine qEqS ?_
                refine hK _ _ ?_
                refine w1k (by rfl) fun K hK => ?_
                refine hK _ _ ?_
                refine wnil ?_
                refine wcond (by rfl) (fun h9 => ?_) (fun h9 => ?_)
                · exact absurd (sg_zero (of_decide_eq_true h9)) (hz rfl)
                · refine call (fun w' hm => New_spec (sgX true (A')) w' (hT.mono (hm 0 _ rfl).whole)) ?_
                  rintro _ _ ⟨bq, hq, kq, rfl, rfl, hS0⟩
                  refine callMO (i := 8) rfl (fun w0 w' hok => Int_spec w' (hok.mem 8 _ rfl) (Ok.kle2 (j := 9) (i := 8) hok (by decide) rfl rfl) hS0) ?_
                  rintro _ hq1 _ ⟨rfl, rfl, hS1⟩
                  generalize intR (newR (sgX true (A'))) (-1000) 1000 = RB at *
                  obtain ⟨rB, kv⟩ := RB
                  obtain ⟨p1, p2, p3⟩ := hQ.far hcan hz hf
                  dsimp only at p1 p2 p3 hS1
                  subst p1
                  refine callV (.tuple #[.int .i64 rB.ln, .int .i64 1, .int .i64 2]) (fun w' hm => Error_of w' (hm 8 _ rfl) hS1 p2 (by decide) (z := 1) (c := 1) p3 rfl) ?_
                  refine hideQ (fun _ kz => kz _ _ ?_)
                  show wops _ _ _ _ _ _
                  refine w1k (by rfl) fun K hK => ?_
                  refine hK _ _ ?_
                  refine w1k (by rfl) fun K hK => ?_
                  refine hK _ _ ?_
                  refine w1k (by rfl) fun K hK => ?_
                  refine hK _ _ ?_
                  refine wGSk (by rfl) (by rfl) (by rfl) (fun h2_ K hK => ?_) (fun h2_ K hK => ?_)
                  · refine hK _ _ ?_
                    refine wGYk (by rfl) (by rfl) (by rfl) fun K hK => ?_
                    refine hK _ _ ?_
                    refine wGYk (by rfl) (by rfl) (by rfl) fun K hK => ?_
                    refine qNeS ?_
                    refine hK _ _ ?_
                    refine w1k (by rfl) fun K hK => ?_
                    refine hK _ _ ?_
                    refine wnil ?_
                    refine wcond (by rfl) (fun h9 => ?_) (fun h9 => ?_)
                    · exact absurd rfl (of_decide_eq_true h9)
                    · show wops _ _ _ _ _ _
                      refine w1k (by rfl) fun K hK => ?_
                      refine hK _ _ ?_
                      refine w1k (by rfl) fun K hK => ?_
                      refine hK _ _ ?_
                      refine w1k (by rfl) fun K hK => ?_
                      refine hK _ _ ?_
                      refine wGSk (by rfl) (by rfl) (by rfl) (fun h2_ K hK => ?_) (fun h2_ K hK => ?_)
                      · refine hK _ _ ?_
                        refine wGYk (by rfl) (by rfl) (by rfl) fun K hK => ?_
                        refine hK _ _ ?_
                        refine w1k (by rfl) fun K hK => ?_
                        refine hK _ _ ?_
                        refine wnil ?_
                        refine wcond (by rfl) (fun h9 => ?_) (fun h9 => ?_)
                        · show wops _ _ _ _ _ _
                          refine w1k (by rfl) fun K hK => ?_
                          refine hK _ _ ?_
                          refine w1k (by rfl) fun K hK => ?_
                          refine hK _ _ ?_
                          refine w1k (by rfl) fun K hK => ?_
                          refine hK _ _ ?_
                          refine wGSk (by rfl) (by rfl) (by rfl) (fun h2_ K hK => ?_) (fun h2_ K hK => ?_)
                          · refine hK _ _ ?_
                            refine wGYk (by rfl) (by rfl) (by rfl) fun K hK => ?_
                            refine hK _ _ ?_
                            refine w1k (by rfl) fun K hK => ?_
                            refine hK _ _ ?_
                            refine w1k (by rfl) fun K hK => ?_
                            refine hK _ _ ?_
                            refine wGSk (by rfl) (by rfl) (by rfl) (fun h6_ K hK => ?_) (fun h6_ K hK => ?_)
                            · refine hK _ _ ?_
                              refine wGYk (by rfl) (by rfl) (by rfl) fun K hK => ?_
                              refine hK _ _ ?_
                              refine w1k (by rfl) fun K hK => ?_
                              refine hK _ _ ?_
                              refine w1k (by rfl) fun K hK => ?_
                              refine hK _ _ ?_
                              refine wnil ?_
                              exact ⟨[], ⟨by first | rfl | exact congrArg Value.bool (decide_eq_true rfl), rfl⟩, fun w' h => h.pick [0] rfl rfl⟩
                            · exact absurd rfl (of_decide_eq_false h6_)
                          · exact absurd rfl (of_decide_eq_false h2_)
                        · exact absurd hf (by have := of_decide_eq_false h2_; have := of_decide_eq_false h9; omega)
                      · refine hK _ _ ?_
                        refine wGNk (by rfl) (by rfl) (by rfl) fun K hK => ?_
                        refine hK _ _ ?_
                        refine w1k (by rfl) fun K hK => ?_
                        refine hK _ _ ?_
                        refine wnil ?_
                        refine wcond (by rfl) (fun h9 => ?_) (fun h9 => ?_)
                        · show wops _ _ _ _ _ _
                          refine w1k (by rfl) fun K hK => ?_
                          refine hK _ _ ?_
                          refine w1k (by rfl) fun K hK => ?_
                          refine hK _ _ ?_
                          refine w1k (by rfl) fun K hK => ?_
                          refine hK _ _ ?_
                          refine wGSk (by rfl) (by rfl) (by rfl) (fun h2_ K hK => ?_) (fun h2_ K hK => ?_)
                          · refine hK _ _ ?_
                            refine wGYk (by rfl) (by rfl) (by rfl) fun K hK => ?_
                            refine hK _ _ ?_
                            refine w1k (by rfl) fun K hK => ?_
                            refine hK _ _ ?_
                            refine w1k (by rfl) fun K hK => ?_
                            refine hK _ _ ?_
                            refine wGSk (by rfl) (by rfl) (by rfl) (fun h6_ K hK => ?_) (fun h6_ K hK => ?_)
                            · refine hK _ _ ?_
                              refine wGYk (by rfl) (by rfl) (by rfl) fun K hK => ?_
                              refine hK _ _ ?_
                              refine w1k (by rfl) fun K hK => ?_
                              refine hK _ _ ?_
                              refine w1k (by rfl) fun K hK => ?_
                              refine hK _ _ ?_
                              refine wnil ?_
                              exact ⟨[], ⟨by first | rfl | exact congrArg Value.bool (decide_eq_true rfl), rfl⟩, fun w' h => h.pick [0] rfl rfl⟩
                            · exact absurd rfl (of_decide_eq_false h6_)
                          · exact absurd rfl (of_decide_eq_false h2_)
                        · cases h9
                  · exact absurd rfl (of_decide_eq_true h2_)
            · refine call (fun w' hm => New_spec (sgX true (A')) w' (hT.mono (hm 0 _ rfl).whole)) ?_
              rintro _ _ ⟨br, hr, kr, rfl, rfl, hR0⟩
              refine callMO (i := 6) rfl (fun w0 w' hok => Number_spec w' (hok.mem 6 _ rfl) (Ok.kle2 (j := 7) (i := 6) hok (by decide) rfl rfl) hR0) ?_
              rintro _ hr1 _ ⟨rfl, rfl, hR1⟩
              generalize numR (newR (sgX true (A'))) = RA at *
              obtain ⟨rA, x⟩ := RA
              obtain ⟨q1, q2⟩ := hQ.ok hcan hz
              dsimp only at q1 q2 hR1
              rw [q1]
              refine callV (.tuple #[.int .i64 0, .int .i64 0, .int .i64 0]) (fun w' hm => Error_ok w' (hm 6 _ rfl) hR1 q2) ?_
              refine hideQ (fun _ kz => kz _ _ ?_)
              show wops _ _ _ _ _ _
              refine w1k (by rfl) fun K hK => ?_
              refine hK _ _ ?_
              refine w1k (by rfl) fun K hK => ?_
              refine hK _ _ ?_
              refine wnil ?_
              refine wcond (by rfl) (fun h14 => ?_) (fun h14 => ?_)
              · exact absurd h14 (by decide)
              · show wops _ _ _ _ _ _
                refine w1k (by rfl) fun K hK => ?_
                refine hK _ _ ?_
                refine w1k (by rfl) fun K hK => ?_
                refine hK _ _ ?_
                refine wGYk (by rfl) (by rfl) (by rfl) fun K hK => ?_
                refine hK _ _ ?_
                refine wGYk (by rfl) (by rfl) (by rfl) fun K hK => ?_
                refine qEqS ?_
                refine hK _ _ ?_
                refine w1k (by rfl) fun K hK => ?_
                refine hK _ _ ?_
                refine wnil ?_
                refine wcond (by rfl) (fun h9 => ?_) (fun h9 => ?_)
                · exact absurd (sg_zero (of_decide_eq_true h9)) (hz rfl)
                · refine call (fun w' hm => New_spec (sgX true (A')) w' (hT.mono (hm 0 _ rfl).whole)) ?_
                  rintro _ _ ⟨bq, hq, kq, rfl, rfl, hS0⟩
                  refine callMO (i := 8) rfl (fun w0 w' hok => Int_spec w' (hok.mem 8 _ rfl) (Ok.kle2 (j := 9) (i := 8) hok (by decide) rfl rfl) hS0) ?_
                  rintro _ hq1 _ ⟨rfl, rfl, hS1⟩
                  generalize intR (newR (sgX true (A'))) (-1000) 1000 = RB at *
                  obtain ⟨rB, kv⟩ := RB
                  obtain ⟨p1, p2⟩ := hQ.near hcan hz hf
                  dsimp only at p1 p2 hS1
                  have p2 : kv = -(a : Int) := p2
                  subst p2
                  refine callV (.tuple #[.int .i64 0, .int .i64 0, .int .i64 0]) (fun w' hm => Error_ok w' (hm 8 _ rfl) hS1 p1) ?_
                  refine hideQ (fun _ kz => kz _ _ ?_)
                  show wops _ _ _ _ _ _
                  refine w1k (by rfl) fun K hK => ?_
                  refine hK _ _ ?_
                  refine w1k (by rfl) fun K hK => ?_
                  refine hK _ _ ?_
                  refine w1k (by rfl) fun K hK => ?_
                  refine hK _ _ ?_
                  refine wGSk (by rfl) (by rfl) (by rfl) (fun h2_ K hK => ?_) (fun h2_ K hK => ?_)
                  · refine hK _ _ ?_
                    refine wGYk (by rfl) (by rfl) (by rfl) fun K hK => ?_
                    refine hK _ _ ?_
                    refine wGYk (by rfl) (by rfl) (by rfl) fun K hK => ?_
                    refine qNeS ?_
                    refine hK _ _ ?_
                    refine w1k (by rfl) fun K hK => ?_
                    refine hK _ _ ?_
                    refine wnil ?_
                    refine wcond (by rfl) (fun h9 => ?_) (fun h9 => ?_)
                    · exact absurd rfl (of_decide_eq_true h9)
                    · show wops _ _ _ _ _ _
                      refine w1k (by rfl) fun K hK => ?_
                      refine hK _ _ ?_
                      refine w1k (by rfl) fun K hK => ?_
                      refine hK _ _ ?_
                      refine w1k (by rfl) fun K hK => ?_
                      refine hK _ _ ?_
                      refine wGSk (by rfl) (by rfl) (by rfl) (fun h2_ K hK => ?_) (fun h2_ K hK => ?_)
                      · refine hK _ _ ?_
                        refine wGYk (by rfl) (by rfl) (by rfl) fun K hK => ?_
                        refine hK _ _ ?_
                        refine w1k (by rfl) fun K hK => ?_
                        refine hK _ _ ?_
                        refine wnil ?_
                        refine wcond (by rfl) (fun h9 => ?_) (fun h9 => ?_)
                        · exact absurd (.inr (by have := of_decide_eq_true h9; omega)) hf
                        · show wops _ _ _ _ _ _
                          refine w1k (by rfl) fun K hK => ?_
                          refine hK _ _ ?_
                          refine w1k (by rfl) fun K hK => ?_
                          refine hK _ _ ?_
                          refine w1k (by rfl) fun K hK => ?_
                          refine hK _ _ ?_
                          refine wGSk (by rfl) (by rfl) (by rfl) (fun h2_ K hK => ?_) (fun h2_ K hK => ?_)
                          · refine hK _ _ ?_
                            refine wGYk (by rfl) (by rfl) (by rfl) fun K hK => ?_
                            refine hK _ _ ?_
                            refine wGYk (by rfl) (by rfl) (by rfl) fun K hK => ?_
                            refine hK _ _ ?_
                            refine wGYk (by rfl) (by rfl) (by rfl) fun K hK => ?_
                            refine hK _ _ ?_
                            refine wGYk (by rfl) (by rfl) (by rfl) fun K hK => ?_
                            refine nwEq (y := -(a : Int)) (by omega) (by omega) (by omega) ?_
                            refine hK _ _ ?_
                            refine wGYk (by rfl) (by rfl) (by rfl) fun K hK => ?_
                            refine hK _ _ ?_
                            refine wGYk (by rfl) (by rfl) (by rfl) fun K hK => ?_
                            refine hK _ _ ?_
                            refine wGYk (by rfl) (by rfl) (by rfl) fun K hK => ?_
                            refine hK _ _ ?_
                            refine wGSk (by rfl) (by rfl) (by rfl) (fun h10_ K hK => ?_) (fun h10_ K hK => ?_)
                            · exact absurd rfl (of_decide_eq_false h10_)
                            · refine hK _ _ ?_
                              refine wGNk (by rfl) (by rfl) (by rfl) fun K hK => ?_
                              refine hK _ _ ?_
                              refine wGNk (by rfl) (by rfl) (by rfl) fun K hK => ?_
                              refine hK _ _ ?_
                              refine wGUk (by rfl) (by rfl) (by rfl) fun K hK => ?_
                              refine hK _ _ ?_
                              refine wGUk (by rfl) (by rfl) (by rfl) fun K hK => ?_
                              refine hK _ _ ?_
                              refine wGUk (by rfl) (by rfl) (by rfl) fun K hK => ?_
                              refine hK _ _ ?_
                              refine wGNk (by rfl) (by rfl) (by rfl) fun K hK => ?_
                              refine hK _ _ ?_
                              refine wGYk (by rfl) (by rfl) (by rfl) fun K hK => ?_
                              refine hK _ _ ?_
                              refine w1k (by rfl) fun K hK => ?_
                              refine hK _ _ ?_
                              refine w1k (by rfl) fun K hK => ?_
                              refine hK _ _ ?_
                              refine wnil ?_
                              exact ⟨[], ⟨by first | rfl | exact congrArg Value.bool (decide_eq_true rfl), rfl⟩, fun w' h => h.pick [0] rfl rfl⟩
                          · exact absurd rfl (of_decide_eq_false h2_)
                      · refine hK _ _ ?_
                        refine wGNk (by rfl) (by rfl) (by rfl) fun K hK => ?_
                        refine hK _ _ ?_
                        refine w1k (by rfl) fun K hK => ?_
                        refine hK _ _ ?_
                        refine wnil ?_
                        exact absurd (.inl (by have := of_decide_eq_true h2_; omega)) hf
                  · exact absurd rfl (of_decide_eq_true h2_)
        · obtain rfl : minus = false := h91
          have hz : false = true → A' ≠ [48] := fun g => by cases g
          by_cases hf : 1 < b ∨ 1000 < a
          · refine call (fun w' hm => New_spec (sgX false (A')) w' (hT.mono (hm 0 _ rfl).whole)) ?_
            rintro _ _ ⟨br, hr, kr, rfl, rfl, hR0⟩
            refine callMO (i := 6) rfl (fun w0 w' hok => Number_spec w' (hok.mem 6 _ rfl) (Ok.kle2 (j := 7) (i := 6) hok (by decide) rfl rfl) hR0) ?_
            rintro _ hr1 _ ⟨rfl, rfl, hR1⟩
            generalize numR (newR (sgX false (A'))) = RA at *
            obtain ⟨rA, x⟩ := RA
            obtain ⟨q1, q2⟩ := hQ.ok hcan hz
            dsimp only at q1 q2 hR1
            rw [q1]
            refine callV (.tuple #[.int .i64 0, .int .i64 0, .int .i64 0]) (fun w' hm => Error_ok w' (hm 6 _ rfl) hR1 q2) ?_
            refine hideQ (fun _ kz => kz _ _ ?_)
            show wops _ _ _ _ _ _
            refine w1k (by rfl) fun K hK => ?_
            refine hK _ _ ?_
            refine w1k (by rfl) fun K hK => ?_
            refine hK _ _ ?_
            refine wnil ?_
            refine wcond (by rfl) (fun h14 => ?_) (fun h14 => ?_)
            · exact absurd h14 (by decide)
            · show wops _ _ _ _ _ _
              refine w1k (by rfl) fun K hK => ?_
              refine hK _ _ ?_
              refine w1k (by rfl) fun K hK => ?_
              refine hK _ _ ?_
              refine wGNk (by rfl) (by rfl) (by rfl) fun K hK => ?_
              refine hK _ _ ?_
              refine wGNk (by rfl) (by rfl) (by rfl) fun K hK => ?_
              refine hK _ _ ?_
              refine w1k (by rfl) fun K hK => ?_
              refine hK _ _ ?_
              refine wnil ?_
              refine wcond (by rfl) (fun h9 => ?_) (fun h9 => ?_)
              · cases h9
              · refine call (fun w' hm => New_spec (sgX false (A')) w' (hT.mono (hm 0 _ rfl).whole)) ?_
                rintro _ _ ⟨bq, hq, kq, rfl, rfl, hS0⟩
                refine callMO (i := 8) rfl (fun w0 w' hok => Int_spec w' (hok.mem 8 _ rfl) (Ok.kle2 (j := 9) (i := 8) hok (by decide) rfl rfl) hS0) ?_
                rintro _ hq1 _ ⟨rfl, rfl, hS1⟩
                generalize intR (newR (sgX false (A'))) (-1000) 1000 = RB at *
                obtain ⟨rB, kv⟩ := RB
                obtain ⟨p1, p2, p3⟩ := hQ.far hcan hz hf
                dsimp only at p1 p2 p3 hS1
                subst p1
                refine callV (.tuple #[.int .i64 rB.ln, .int .i64 1, .int .i64 2]) (fun w' hm => Error_of w' (hm 8 _ rfl) hS1 p2 (by decide) (z := 1) (c := 1) p3 rfl) ?_
                refine hideQ (fun _ kz => kz _ _ ?_)
                show wops _ _ _ _ _ _
                refine w1k (by rfl) fun K hK => ?_
                refine hK _ _ ?_
                refine w1k (by rfl) fun K hK => ?_
                refine hK _ _ ?_
                refine w1k (by rfl) fun K hK => ?_
                refine hK _ _ ?_
                refine wGSk (by rfl) (by rfl) (by rfl) (fun h2_ K hK => ?_) (fun h2_ K hK => ?_)
                · refine hK _ _ ?_
                  refine wGYk (by rfl) (by rfl) (by rfl) fun K hK => ?_
                  refine hK _ _ ?_
                  refine wGYk (by rfl) (by rfl) (by rfl) fun K hK => ?_
                  refine qNeS ?_
                  refine hK _ _ ?_
                  refine w1k (by rfl) fun K hK => ?_
                  refine hK _ _ ?_
                  refine wnil ?_
                  refine wcond (by rfl) (fun h9 => ?_) (fun h9 => ?_)
                  · exact absurd rfl (of_decide_eq_true h9)
                  · show wops _ _ _ _ _ _
                    refine w1k (by rfl) fun K hK => ?_
                    refine hK _ _ ?_
                    refine w1k (by rfl) fun K hK => ?_
                    refine hK _ _ ?_
                    refine w1k (by rfl) fun K hK => ?_
                    refine hK _ _ ?_
                    refine wGSk (by rfl) (by rfl) (by rfl) (fun h2_ K hK => ?_) (fun h2_ K hK => ?_)
                    · refine hK _ _ ?_
                      refine wGYk (by rfl) (by rfl) (by rfl) fun K hK => ?_
                      refine hK _ _ ?_
                      refine w1k (by rfl) fun K hK => ?_
                      refine hK _ _ ?_
                      refine wnil ?_
                      refine wcond (by rfl) (fun h9 => ?_) (fun h9 => ?_)
                      · show wops _ _ _ _ _ _
                        refine w1k (by rfl) fun K hK => ?_
                        refine hK _ _ ?_
                        refine w1k (by rfl) fun K hK => ?_
                        refine hK _ _ ?_
                        refine w1k (by rfl) fun K hK => ?_
                        refine hK _ _ ?_
                        refine wGSk (by rfl) (by rfl) (by rfl) (fun h2_ K hK => ?_) (fun h2_ K hK => ?_)
                        · refine hK _ _ ?_
                          refine wGYk (by rfl) (by rfl) (by rfl) fun K hK => ?_
                          refine hK _ _ ?_
                          refine w1k (by rfl) fun K hK => ?_
                          refine hK _ _ ?_
                          refine w1k (by rfl) fun K hK => ?_
                          refine hK _ _ ?_
                          refine wGSk (by rfl) (by rfl) (by rfl) (fun h6_ K hK => ?_) (fun h6_ K hK => ?_)
                          · refine hK _ _ ?_
                            refine wGYk (by rfl) (by rfl) (by rfl) fun K hK => ?_
                            refine hK _ _ ?_
                            refine w1k (by rfl) fun K hK => ?_
                            refine hK _ _ ?_
                            refine w1k (by rfl) fun K hK => ?_
                            refine hK _ _ ?_
                            refine wnil ?_
                            exact ⟨[], ⟨by first | rfl | exact congrArg Value.bool (decide_eq_true rfl), rfl⟩, fun w' h => h.pick [0] rfl rfl⟩
                          · exact absurd rfl (of_decide_eq_false h6_)
                        · exact absurd rfl (of_decide_eq_false h2_)
                      · exact absurd hf (by have := of_decide_eq_false h2_; have := of_decide_eq_false h9; omega)
                    · refine hK _ _ ?_
                      refine wGNk (by rfl) (by rfl) (by rfl) fun K hK => ?_
                      refine hK _ _ ?_
                      refine w1k (by rfl) fun K hK => ?_
                      refine hK _ _ ?_
                      refine wnil ?_
                      refine wcond (by rfl) (fun h9 => ?_) (fun h9 => ?_)
                      · show wops _ _ _ _ _ _
                        refine w1k (by rfl) fun K hK => ?_
                        refine hK _ _ ?_
                        refine w1k (by rfl) fun K hK => ?_
                        refine hK _ _ ?_
                        refine w1k (by rfl) fun K hK => ?_
                        refine hK _ _ ?_
                        refine wGSk (by rfl) (by rfl) (by rfl) (fun h2_ K hK => ?_) (fun h2_ K hK => ?_)
                        · refine hK _ _ ?_
                          refine wGYk (by rfl) (by rfl) (by rfl) fun K hK => ?_
                          refine hK _ _ ?_
                          refine w1k (by rfl) fun K hK => ?_
                          refine hK _ _ ?_
                          refine w1k (by rfl) fun K hK => ?_
                          refine hK _ _ ?_
                          refine wGSk (by rfl) (by rfl) (by rfl) (fun h6_ K hK => ?_) (fun h6_ K hK => ?_)
                          · refine hK _ _ ?_
                            refine wGYk (by rfl) (by rfl) (by rfl) fun K hK => ?_
                            refine hK _ _ ?_
                            refine w1k (by rfl) fun K hK => ?_
                            refine hK _ _ ?_
                            refine w1k (by rfl) fun K hK => ?_
                            refine hK _ _ ?_
                            refine wnil ?_
                            exact ⟨[], ⟨by first | rfl | exact congrArg Value.bool (decide_eq_true rfl), rfl⟩, fun w' h => h.pick [0] rfl rfl⟩
                          · exact absurd rfl (of_decide_eq_false h6_)
                        · exact absurd rfl (of_decide_eq_false h2_)
                      · cases h9
                · exact absurd rfl (of_decide_eq_true h2_)
          · refine call (fun w' hm => New_spec (sgX false (A')) w' (hT.mono (hm 0 _ rfl).whole)) ?_
            rintro _ _ ⟨br, hr, kr, rfl, rfl, hR0⟩
            refine callMO (i := 6) rfl (fun w0 w' hok => Number_spec w' (hok.mem 6 _ rfl) (Ok.kle2 (j := 7) (i := 6) hok (by decide) rfl rfl) hR0) ?_
            rintro _ hr1 _ ⟨rfl, rfl, hR1⟩
            generalize numR (newR (sgX false (A'))) = RA at *
            obtain ⟨rA, x⟩ := RA
            obtain ⟨q1, q2⟩ := hQ.ok hcan hz
            dsimp only at q1 q2 hR1
            rw [q1]
            refine callV (.tuple #[.int .i64 0, .int .i64 0, .int .i64 0]) (fun w' hm => Error_ok w' (hm 6 _ rfl) hR1 q2) ?_
            refine hideQ (fun _ kz => kz _ _ ?_)
            show wops _ _ _ _ _ _
            refine w1k (by rfl) fun K hK => ?_
            refine hK _ _ ?_
            refine w1k (by rfl) fun K hK => ?_
            refine hK _ _ ?_
            refine wnil ?_
            refine wcond (by rfl) (fun h14 => ?_) (fun h14 => ?_)
            · exact absurd h14 (by decide)
            · show wops _ _ _ _ _ _
              refine w1k (by rfl) fun K hK => ?_
              refine hK _ _ ?_
              refine w1k (by rfl) fun K hK => ?_
              refine hK _ _ ?_
              refine wGNk (by rfl) (by rfl) (by rfl) fun K hK => ?_
              refine hK _ _ ?_
              refine wGNk (by rfl) (by rfl) (by rfl) fun K hK => ?_
              refine hK _ _ ?_
              refine w1k (by rfl) fun K hK => ?_
              refine hK _ _ ?_
              refine wnil ?_
              refine wcond (by rfl) (fun h9 => ?_) (fun h9 => ?_)
              · cases h9
              · refine call (fun w' hm => New_spec (sgX false (A')) w' (hT.mono (hm 0 _ rfl).whole)) ?_
                rintro _ _ ⟨bq, hq, kq, rfl, rfl, hS0⟩
                refine callMO (i := 8) rfl (fun w0 w' hok => Int_spec w' (hok.mem 8 _ rfl) (Ok.kle2 (j := 9) (i := 8) hok (by decide) rfl rfl) hS0) ?_
                rintro _ hq1 _ ⟨rfl, rfl, hS1⟩
                generalize intR (newR (sgX false (A'))) (-1000) 1000 = RB at *
                obtain ⟨rB, kv⟩ := RB
                obtain ⟨p1, p2⟩ := hQ.near hcan hz hf
                dsimp only at p1 p2 hS1
                have p2 : kv = (a : Int) := p2
                subst p2
                refine callV (.tuple #[.int .i64 0, .int .i64 0, .int .i64 0]) (fun w' hm => Error_ok w' (hm 8 _ rfl) hS1 p1) ?_
                refine hideQ (fun _ kz => kz _ _ ?_)
                show wops _ _ _ _ _ _
                refine w1k (by rfl) fun K hK => ?_
                refine hK _ _ ?_
                refine w1k (by rfl) fun K hK => ?_
                refine hK _ _ ?_
                refine w1k (by rfl) fun K hK => ?_
                refine hK _ _ ?_
                refine wGSk (by rfl) (by rfl) (by rfl) (fun h2_ K hK => ?_) (fun h2_ K hK => ?_)
                · refine hK _ _ ?_
                  refine wGYk (by rfl) (by rfl) (by rfl) fun K hK => ?_
                  refine hK _ _ ?_
                  refine wGYk (by rfl) (by rfl) (by rfl) fun K hK => ?_
                  refine qNeS ?_
                  refine hK _ _ ?_
                  refine w1k (by rfl) fun K hK => ?_
                  refine hK _ _ ?_
                  refine wnil ?_
                  refine wcond (by rfl) (fun h9 => ?_) (fun h9 => ?_)
                  · exact absurd rfl (of_decide_eq_true h9)
                  · show wops _ _ _ _ _ _
                    refine w1k (by rfl) fun K hK => ?_
                    refine hK _ _ ?_
                    refine w1k (by rfl) fun K hK => ?_
                    refine hK _ _ ?_
                    refine w1k (by rfl) fun K hK => ?_
                    refine hK _ _ ?_
                    refine wGSk (by rfl) (by rfl) (by rfl) (fun h2_ K hK => ?_) (fun h2_ K hK => ?_)
                    · refine hK _ _ ?_
                      refine wGYk (by rfl) (by rfl) (by rfl) fun K hK => ?_
                      refine hK _ _ ?_
                      refine w1k (by rfl) fun K hK => ?_
                      refine hK _ _ ?_
                      refine wnil ?_
                      refine wcond (by rfl) (fun h9 => ?_) (fun h9 => ?_)
                      · exact absurd (.inr (by have := of_decide_eq_true h9; omega)) hf
                      · show wops _ _ _ _ _ _
                        refine w1k (by rfl) fun K hK => ?_
                        refine hK _ _ ?_
                        refine w1k (by rfl) fun K hK => ?_
                        refine hK _ _ ?_
                        refine w1k (by rfl) fun K hK => ?_
                        refine hK _ _ ?_
                        refine wGSk (by rfl) (by rfl) (by rfl) (fun h2_ K hK => ?_) (fun h2_ K hK => ?_)
                        · refine hK _ _ ?_
                          refine wGYk (by rfl) (by rfl) (by rfl) fun K hK => ?_
                          refine hK _ _ ?_
                          refine wGNk (by rfl) (by rfl) (by rfl) fun K hK => ?_
                          refine hK _ _ ?_
                          refine wGNk (by rfl) (by rfl) (by rfl) fun K hK => ?_
                          refine hK _ _ ?_
                          refine wGNk (by rfl) (by rfl) (by rfl) fun K hK => ?_
                          refine hK _ _ ?_
                          refine wGNk (by rfl) (by rfl) (by rfl) fun K hK => ?_
                          refine hK _ _ ?_
                          refine wGYk (by rfl) (by rfl) (by rfl) fun K hK => ?_
                          refine hK _ _ ?_
                          refine wGYk (by rfl) (by rfl) (by rfl) fun K hK => ?_
                          refine hK _ _ ?_
                          refine wGYk (by rfl) (by rfl) (by rfl) fun K hK => ?_
                          refine hK _ _ ?_
                          refine wGYk (by rfl) (by rfl) (by rfl) fun K hK => ?_
                          refine hK _ _ ?_
                          refine wGYk (by rfl) (by rfl) (by rfl) fun K hK => ?_
                          refine hK _ _ ?_
                          refine wGYk (by rfl) (by rfl) (by rfl) fun K hK => ?_
                          refine hK _ _ ?_
                          refine wGYk (by rfl) (by rfl) (by rfl) fun K hK => ?_
                          refine hK _ _ ?_
                          refine wGYk (by rfl) (by rfl) (by rfl) fun K hK => ?_
                          refine hK _ _ ?_
                          refine wGYk (by rfl) (by rfl) (by rfl) fun K hK => ?_
                          refine hK _ _ ?_
                          refine wGYk (by rfl) (by rfl) (by rfl) fun K hK => ?_
                          refine hK _ _ ?_
                          refine w1k (by rfl) fun K hK => ?_
                          refine hK _ _ ?_
                          refine w1k (by rfl) fun K hK => ?_
                          refine hK _ _ ?_
                          refine wnil ?_
                          exact ⟨[], ⟨by first | rfl | exact congrArg Value.bool (decide_eq_true rfl), rfl⟩, fun w' h => h.pick [0] rfl rfl⟩
                        · exact absurd rfl (of_decide_eq_false h2_)
                    · refine hK _ _ ?_
                      refine wGNk (by rfl) (by rfl) (by rfl) fun K hK => ?_
                      refine hK _ _ ?_
                      refine w1k (by rfl) fun K hK => ?_
                      refine hK _ _ ?_
                      refine wnil ?_
                      exact absurd (.inl (by have := of_decide_eq_true h2_; omega)) hf
                · exact absurd rfl (of_decide_eq_true h2_)
    · cases h9
end Go.Proofs.YtoholjdojdmbkaaGreatDoor
