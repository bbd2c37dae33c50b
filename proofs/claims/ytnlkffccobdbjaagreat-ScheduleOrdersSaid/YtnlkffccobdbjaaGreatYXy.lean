/- The law ScheduleOrders returns true. Its premises are its own. -/
import Derived.Test.YtnlkffccobdbjaaGreatYXk
import Derived.Test.YtnlkffccobdbjaaGreatYXs
import Derived.Test.YtnlkffccobdbjaaGreatYXw
import Derived.Test.YtnlkffccobdbjaaGreatYY5
namespace Go.Proofs.YtnlkffccobdbjaaGreat
open Go Go.RowKit Go.Dw
section
variable {a a' : Option Addr} {n c n' c' : Nat} {TT : List Tk} {SS : List Sn}
set_option maxHeartbeats 1000000 in
set_option maxRecDepth 10000 in
theorem orders50_ok {oa : Option Addr} {on oc : Nat} {order : List Int} (w : World) (hT : Sl encT 4 (Hp.whole w) a n c TT) (hS : Sl encN 2 (Hp.whole w) a' n' c' SS) (hO : Sl (encF fI) 1 (Hp.whole w) oa on oc order) :
    CallsE Tryz.prog 8 #[sv a n c a' n' c', .slice oa on oc] w (RetV w (.bool true)) := by
  have lT := hT.len
  have lO := hO.len
  obtain ⟨fi, hfi⟩ : ∃ fi, fi = fineF50 TT SS 6 := ⟨_, rfl⟩
  have kF : ∀ w' : World, Sl encT 4 (Hp.whole w') a n c TT → Sl encN 2 (Hp.whole w') a' n' c' SS → CallsE Tryz.prog 14 #[sv a n c a' n' c', .int .i64 6] w' (RetV w' (.bool fi)) := fun w' h1 h2 => by
    rw [hfi]; exact fine50_spec 6 w' h1 h2
  refine enter (X := cx 81) (cxg _) (args := [.agg #[.slice a n c, .slice a' n' c'], .slice oa on oc]) [.tmp 4] Tryz.func8 rfl rfl rfl rfl rfl ?_
  intro b2
  refine hideQ (fun _ kz => kz _ _ ?_)
  refine hideQ (fun q0 k0 => ?_)
  refine hideK 3 (fun q1 k1 => ?_)
  refine callV _ (fun w' _ => known50_spec w') ?_
  refine k1 _ _ ?_
  refine hideK 5 (fun q2 k2 => ?_)
  refine callV _ (fun w' hm => kF w' (hT.mono encT_mono (hm 0 _ rfl)) (hS.mono encN_mono (hm 0 _ rfl))) ?_
  refine k2 _ _ ?_
  cases fi with
  | false =>
    refine k0 _ _ ?_
    refine condT rfl ?_
    refine callV _ (fun w' _ => known50_spec w') ?_
    exact ⟨[], ⟨rfl, rfl⟩, fun w' h => h.pick [0] rfl rfl⟩
  | true =>
    obtain ⟨hN, hM, hfw, hE⟩ := fine50_of hfi.symm
    have hs := (few49_sml hfw).1
    have hF := fit_of hs hE
    refine k0 _ _ ?_
    refine bsplitd (fun h3 => ?_) (fun h3 => ?_)
    · refine callV _ (fun w' _ => known50_spec w') ?_
      exact ⟨[], ⟨rfl, rfl⟩, fun w' h => h.pick [0] rfl rfl⟩
    obtain ⟨J, hJ⟩ : ∃ J, J = lisR TT SS order := ⟨_, rfl⟩
    obtain ⟨Z, hZ⟩ : ∃ Z, Z = lisE TT SS order := ⟨_, rfl⟩
    obtain ⟨S, hSo⟩ : ∃ S, S = srI order := ⟨_, rfl⟩
    obtain ⟨hz0, hz8⟩ := lisE_iff (order := order) hE
    rw [← hZ] at hz0 hz8
    have hSl : S.length = order.length := by rw [hSo]; exact srtI_len _ _
    have hJ2 : J = if Z = 0 then (lisK TT SS order order.length).1 else [] := by rw [hJ, hZ]; rfl
    refine NeedD.by_order (cxg _) (.take 0 <| .take 1 <| .run 2 <| .run 3 <| .take 4 <| .take 5 <| .take 6 <| .take 7 <| .take 8 <| .done) (by kernel_rfl) ?_
    refine call (fun w' hm => cloneInts_spec w' (hO.mono (encF_mono _) (hm 0 _ rfl)) (by omega)) ?_
    rintro _ _ ⟨o2, rfl, rfl, ho2⟩
    have s2 := OwnO.sl (f := fI) (fun _ => rfl) (by decide) ho2
    refine ⟨(by repeat first | exact trivial | refine ⟨.inl rfl, ?_⟩ | refine ⟨.inr rfl, ?_⟩), ?_⟩
    have kL : ∀ w' : World, Sl encT 4 (Hp.whole w') a n c TT → Sl encN 2 (Hp.whole w') a' n' c' SS → Sl (encF fI) 1 (Hp.whole w') o2.a o2.n o2.c order → CallsE Tryz.prog 24 #[sv a n c a' n' c', .slice o2.a o2.n o2.c] w' (RetJ w' J Z) := fun w' h1 h2 h3 => by
      rw [hJ, hZ]; exact List_spec w' h1 h2 hs h3 (by omega)
    refine call (fun w' hm => kL w' (hT.mono encT_mono (hm 0 _ rfl)) (hS.mono encN_mono (hm 0 _ rfl)) (s2.mono (encF_mono _) (hm 2 _ rfl))) ?_
    rintro _ _ ⟨oJ, rfl, rfl, hoJ⟩
    have sJ := OwnO.sl (f := fJ) (fun _ => rfl) (by decide) hoJ
    have lJ := sJ.len
    refine ⟨(by repeat first | exact trivial | refine ⟨.inl rfl, ?_⟩ | refine ⟨.inr rfl, ?_⟩), ?_⟩
    refine call (fun w' _ => values_spec w') ?_
    rintro _ _ ⟨bv, rfl, rfl⟩
    have kS : ∀ w' : World, Sl (encF fI) 1 (Hp.whole w') oa on oc order → Bx (Hp.whole w') bv [.slice oa on oc] → CallsE Tryz.prog 36 #[.func (.func 82) ⟨[]⟩ ⟨[.pointer (some ⟨bv, 0, none⟩)]⟩] w' (Ret w' fun v cs => ∃ o : Dw.Os, v = o.v ∧ cs = [.hp o.h] ∧ OwnO fI 3 1 o S) := fun w' h1 h2 => by
      rw [hSo]; exact sorted_spec w' ⟨h2 0 _ rfl, h1⟩ (by omega)
    refine call (fun w' hm => kS w' (hO.mono (encF_mono _) (hm 0 _ rfl)) (Bx.of (hm 4 _ rfl))) ?_
    rintro _ _ ⟨oS, rfl, rfl, hoS⟩
    have sS := OwnO.sl (f := fI) (fun _ => rfl) (by decide) hoS
    have lS := sS.len
    refine NeedL.mk Nat (fun k => [(1, .v (.slice oa on oc)), (2, .bx 1 0), (5, .v oJ.v), (6, .v (.int .i64 Z)), (7, .v oS.v), (33, .v oS.v), (34, .v (.int .i64 oS.n)), (35, .v (.int .i64 k))])
      (fun _ => [.hp (Hp.whole w), .box b2 [.slice a n c, .slice a' n' c'] 25, .hp oJ.h, .hp oS.h])
      (fun k => k ≤ oS.n ∧ (∀ i, i < k → S.getD i 0 = (i : Int)) ∧ (0 < k → on = n)) (fun k => oS.n - k) 0 ⟨Nat.zero_le _, fun i hi => absurd hi (Nat.not_lt_zero i), fun h => absurd h (Nat.lt_irrefl 0)⟩ (Ent.mk (fun _ _ h => h.pick [0, 1, 3, 5] rfl rfl) rfl rfl) ?_
    rintro k ⟨hk, hall, hpos⟩
    refine bsplitd (fun h4 => ?_) (fun h4 => ?_)
    · have hkS : k < S.length := by omega
      obtain ⟨x, hx⟩ : ∃ x, x = S[k] := ⟨_, rfl⟩
      refine idx (cxg _) (e := 3) rfl sS k rfl hkS (fun b9 o9 cs hcs hR hcell5 => ?_)
      rw [← hx] at hR
      subst hR
      refine ld1 (cxg _) (i := 3) rfl (hcell5 0 _ rfl) rfl ?_
      refine bsplitd (fun h6 => ?_) (fun h6 => ?_)
      · have hz := hz8 (fun g => h6 (by
          have := g.1 k (by omega)
          rw [← hSo, gD hkS, ← hx] at this
          exact this))
        subst hz
        rw [if_neg (by decide)] at hJ2
        subst hJ2
        exact ⟨[], ⟨by rw [decide_eq_true (by rw [lJ]; rfl)], rfl⟩, fun w' h => h.pick [0] rfl rfl⟩
      refine bsplitd (fun h8 => ?_) (fun h8 => ?_)
      · have hz := hz8 (fun g => h8 (by have := g.2; omega))
        subst hz
        rw [if_neg (by decide)] at hJ2
        subst hJ2
        exact ⟨[], ⟨by rw [decide_eq_true (by rw [lJ]; rfl)], rfl⟩, fun w' h => h.pick [0] rfl rfl⟩
      refine nw (by omega) (by omega) ?_
      refine ⟨k + 1, ⟨by omega, fun i hi => ?_, fun _ => by omega⟩, by omega, Ent.mk (fun _ _ h => h) rfl rfl⟩
      by_cases hik : i = k
      · subst hik
        rw [gD hkS, ← hx]; exact Decidable.not_not.1 h6
      · exact hall i (by omega)
    · refine bsplitd (fun h10 => ?_) (fun h10 => ?_)
      · have hz := hz8 (fun g => h10 (by have := g.2; omega))
        subst hz
        rw [if_neg (by decide)] at hJ2
        subst hJ2
        exact ⟨[], ⟨by rw [decide_eq_true (by rw [lJ]; rfl)], rfl⟩, fun w' h => h.pick [0] rfl rfl⟩
      have hB : ordB TT.length order := ⟨fun i hi => by rw [← hSo]; exact hall i (by omega), by omega⟩
      have hz := hz0 hB
      have hok := ordB_ok hB
      subst hz
      rw [if_pos rfl] at hJ2
      have hJl : J.length = TT.length := by rw [hJ2]; exact (lis_sch hF hE hok).len
      have kl : ∀ w' : World, Sl encT 4 (Hp.whole w') a n c TT → Sl encN 2 (Hp.whole w') a' n' c' SS → Sl (encF fI) 1 (Hp.whole w') oa on oc order → CallsE Tryz.prog 28 #[sv a n c a' n' c', .slice oa on oc] w' (Ret w' fun v cs => ∃ o : Dw.Os, v = o.v ∧ cs = [.hp o.h] ∧ OwnO fJ 52 3 o J) := fun w' h1 h2 h3 => by
        rw [hJ2]; exact list50_spec w' h1 h2 hs hE h3 hok
      refine call (fun w' hm => kl w' (hT.mono encT_mono (hm 0 _ rfl)) (hS.mono encN_mono (hm 0 _ rfl)) (hO.mono (encF_mono _) (hm 0 _ rfl))) ?_
      rintro _ _ ⟨oK, rfl, rfl, hoK⟩
      have sK := OwnO.sl (f := fJ) (fun _ => rfl) (by decide) hoK
      refine callV (.bool true) (fun w' hm => by
        have := equalJobs_spec w' (sJ.mono (encF_mono _) (hm 2 _ rfl)) (sK.mono (encF_mono _) (hm 4 _ rfl)) (by omega)
        rwa [decide_eq_true (rfl : J = J)] at this) ?_
      exact ⟨[], ⟨rfl, rfl⟩, fun w' h => h.pick [0] rfl rfl⟩
end
end Go.Proofs.YtnlkffccobdbjaaGreat
