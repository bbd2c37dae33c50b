/- Contract of the model of layer 50: drawn. Its premises are its own. -/
import Derived.Test.YtnlkffccobdbjaaGreatYXu
import Derived.Test.YtnlkffccobdbjaaGreatYXs
import Derived.Test.YtnlkffccobdbjaaGreatYY3
import Derived.Test.YtnlkffccobdbjaaGreatYWs
namespace Go.Proofs.YtnlkffccobdbjaaGreat
open Go Go.RowKit Go.Dw
section
variable {a a' : Option Addr} {n c n' c' : Nat} {TT : List Tk} {SS : List Sn}
theorem drawn1_spec (x y : Jb) (w : World) (hx : 0 ≤ x.2.2 ∧ x.2.2 ≤ 1000000000000) (hy : 0 ≤ y.2.2 ∧ y.2.2 ≤ 1000000000000) :
    CallsE Tryz.prog 84 ([] ++ [Value.agg (fJ x).toArray, Value.agg (fJ y).toArray] ++ []).toArray w (RetV w (.int .i64 (x.2.2 - y.2.2))) := by
  obtain ⟨x1, x2, x3⟩ := x
  obtain ⟨y1, y2, y3⟩ := y
  dsimp only at hx hy
  refine enter (X := cx 10) (cxg _) (args := [.agg #[.int .i64 x1, .int .i64 x2, .int .i64 x3], .agg #[.int .i64 y1, .int .i64 y2, .int .i64 y3]]) [.tmp 4] Tryz.func84 rfl rfl rfl rfl rfl ?_
  intro b2
  intro b3
  refine nw (by omega) (by omega) ?_
  exact ⟨[], ⟨rfl, rfl⟩, fun w' h => h.pick [0] rfl rfl⟩
/-- the schedule that is drawn -/
def dwF (TT : List Tk) (SS : List Sn) (O : List Int) (lat : Int) : List Jb := drF TT (lisK TT SS (dwnF O TT.length) (dwnF O TT.length).length).1 (lat % 4).toNat
theorem dw_sch {O : List Int} {lat : Int} (hF : Fit TT) (hE : shopE TT SS = 0) (h12 : TT.length ≤ 12) : Sch TT SS (dwF TT SS O lat) :=
  dr_sch hF (lis_sch hF hE (of_ord O _)) (by omega) (lis_bd hF hE (of_ord O _) h12)
set_option maxHeartbeats 1000000 in
set_option maxRecDepth 10000 in
theorem drawn_spec {oa : Option Addr} {on oc : Nat} {O : List Int} (lat : Int) (w : World) (hT : Sl encT 4 (Hp.whole w) a n c TT) (hS : Sl encN 2 (Hp.whole w) a' n' c' SS) (hs : Sml TT SS) (hE : shopE TT SS = 0) (hO : Sl (encF fU) 1 (Hp.whole w) oa on oc O) (hb : ∀ u ∈ O, 0 ≤ u ∧ u ≤ 255) (h12 : TT.length ≤ 12) (hl : 0 ≤ lat ∧ lat ≤ 255) :
    CallsE Tryz.prog 38 #[sv a n c a' n' c', .slice oa on oc, .int .u8 lat] w (Ret w fun v cs => ∃ o : Dw.Os, v = o.v ∧ cs = [.hp o.h] ∧ OwnO fJ 52 3 o (dwF TT SS O lat)) := by
  have lT := hT.len
  have hF := fit_of hs hE
  obtain ⟨order, hor⟩ : ∃ order, order = dwnF O TT.length := ⟨_, rfl⟩
  have hok : OrdOk TT.length order := by rw [hor]; exact of_ord O _
  obtain ⟨L, hL⟩ : ∃ L, L = (lisK TT SS order order.length).1 := ⟨_, rfl⟩
  have hSch : Sch TT SS L := by rw [hL]; exact lis_sch hF hE hok
  obtain ⟨d, hd⟩ : ∃ d, d = (lat % 4).toNat := ⟨_, rfl⟩
  have hres : dwF TT SS O lat = drF TT L d := by unfold dwF; rw [← hor, ← hL, ← hd]
  rw [hres]
  have hLl := hSch.len
  have kO : ∀ w' : World, Sl (encF fU) 1 (Hp.whole w') oa on oc O → CallsE Tryz.prog 23 #[.slice oa on oc, .int .i64 n] w' (Ret w' fun v cs => ∃ o : Dw.Os, v = o.v ∧ cs = [.hp o.h] ∧ OwnO fI 3 1 o order) := fun w' h => by
    rw [hor, ← lT]; exact of_spec n w' h hb (by omega)
  have kl : ∀ (w' : World) {ra : Option Addr} {rn rc : Nat}, Sl encT 4 (Hp.whole w') a n c TT → Sl encN 2 (Hp.whole w') a' n' c' SS → Sl (encF fI) 1 (Hp.whole w') ra rn rc order → CallsE Tryz.prog 28 #[sv a n c a' n' c', .slice ra rn rc] w' (Ret w' fun v cs => ∃ o : Dw.Os, v = o.v ∧ cs = [.hp o.h] ∧ OwnO fJ 52 3 o L) := fun w' _ _ _ h1 h2 h3 => by
    rw [hL]; exact list50_spec w' h1 h2 hs hE h3 hok
  clear hres hor hL
  have hok2 := hSch.jok
  have hO2 := ordJ_ord hSch
  refine enter (X := cx 45) (cxg _) (args := [.agg #[.slice a n c, .slice a' n' c'], .slice oa on oc, .int .u8 lat]) [.tmp 6] Tryz.func38 rfl rfl rfl rfl rfl ?_
  intro b3
  refine NeedD.by_order (cxg _) (.take 0 <| .take 1 <| .take 2 <| .take 3 <| .take 4 <| .run 5 <| .run 6 <| .take 7 <| .done) (by kernel_rfl) ?_
  refine call (fun w' hm => kO w' (hO.mono (encF_mono _) (hm 0 _ rfl))) ?_
  rintro _ _ ⟨o1, rfl, rfl, ho1⟩
  have s1 := OwnO.sl (f := fI) (fun _ => rfl) (by decide) ho1
  refine ⟨(by repeat first | exact trivial | refine ⟨.inl rfl, ?_⟩ | refine ⟨.inr rfl, ?_⟩), ?_⟩
  refine call (fun w' hm => kl w' (hT.mono encT_mono (hm 0 _ rfl)) (hS.mono encN_mono (hm 0 _ rfl)) (s1.mono (encF_mono _) (hm 2 _ rfl))) ?_
  rintro _ _ ⟨oL, rfl, rfl, hoL⟩
  refine ⟨(by repeat first | exact trivial | refine ⟨.inl rfl, ?_⟩ | refine ⟨.inr rfl, ?_⟩), ?_⟩
  have sL0 := OwnO.sl (f := fJ) (fun _ => rfl) (by decide) hoL
  have lL0 := sL0.len
  refine call (fun w' hm => cloneJobs_spec w' (sL0.mono (encF_mono _) (hm 3 _ rfl)) (by omega)) ?_
  rintro _ _ ⟨oC, rfl, rfl, hoC⟩
  refine callM' (i := 4) rfl (fun w0 w' hok => sortStableJ_spec 84 [] (fun x y => x.2.2 - y.2.2) w' (hok.mem 4 _ rfl) hoC (by omega) (fun w2 h2 x hx y hy => drawn1_spec x y w2 (hok2 x hx).s (hok2 y hy).s)) ?_
  rintro _ hC2 _ ⟨rfl, rfl, hoC2⟩
  obtain ⟨S, hSd⟩ : ∃ S, S = srtJ L := ⟨_, rfl⟩
  have hSd' : srtI (fun a b : Jb => decide (a.2.2 - b.2.2 < 0)) L = S := by rw [hSd]; rfl
  rw [hSd'] at hoC2
  have sC := OwnO.sl (f := fJ) (fun _ => rfl) (by decide) hoC2
  have lC := sC.len
  have hSl : S.length = TT.length := by rw [hSd]; unfold srtJ; rw [srtI_len]; exact hLl
  have hSg : ∀ k (hk : k < S.length), ∃ (hk2 : k < (ordJ L).length), S[k] = jbA L ((ordJ L)[k]) := fun k hk => by
    have hmem : S[k] ∈ srtJ L := by rw [← hSd]; exact List.getElem_mem _
    obtain ⟨z1, z2⟩ := srtJ_mem hSch hmem
    refine ⟨by rw [hO2.len, ← hSl]; exact hk, ?_⟩
    have e : (ordJ L)[k]'(by rw [hO2.len, ← hSl]; exact hk) = S[k].1.toNat := by subst hSd; unfold ordJ; rw [List.getElem_map]
    rw [e]; exact z2
  refine NeedL.mk (Nat × Hp) (fun g => [(2, .v (.int .u8 lat)), (7, .v oL.v), (22, .v oC.v), (23, .v (.int .i64 oC.n)), (24, .v (.int .i64 g.1))]) (fun g => [.hp (Hp.whole w), .hp g.2, .hp hC2])
    (fun g => g.1 ≤ oC.n ∧ OwnO fJ 52 3 ⟨oL.a, oL.n, oL.c, g.2⟩ (drK TT L d g.1)) (fun g => oC.n - g.1) (0, oL.h) ⟨Nat.zero_le _, by dsimp only; rw [drK_zero hSch]; exact hoL⟩ (Ent.mk (fun _ _ h => h.pick [0, 3, 4] rfl rfl) rfl rfl) ?_
  clear hoL sL0 hoC
  rintro ⟨k, hL2⟩ ⟨hk, ho⟩
  dsimp only at *
  refine bsplitd (fun h1 => ?_) (fun h1 => ?_)
  · have hkS : k < S.length := by omega
    obtain ⟨hk2, hSk⟩ := hSg k hkS
    obtain ⟨x, hx⟩ : ∃ x, x = (ordJ L)[k] := ⟨_, rfl⟩
    have hxT : x < TT.length := by rw [hx]; exact hO2.lt _ (List.getElem_mem hk2)
    have hst := drK_step hSch (d := d) hk2
    have hidx := idx_at hO2.nd hk2
    rw [← hx] at hSk hst hidx
    have hDx : jbA (drK TT L d k) x = ((x : Int), snA L x, stA L x) := by rw [drK_get hxT, hidx, if_neg (Nat.lt_irrefl k), Int.add_zero]
    have hbx := hSch.s0 x hxT
    have htk := hSch.tk x hxT
    obtain ⟨D, hD⟩ : ∃ D, D = drK TT L d k := ⟨_, rfl⟩
    have hDl : D.length = TT.length := by rw [hD]; exact drK_len _ _
    rw [← hD] at hDx ho hst
    have hxD : x < D.length := by omega
    have hDx2 : D[x] = ((x : Int), snA L x, stA L x) := by rw [← hDx]; exact (gD hxD).symm
    obtain ⟨s1', hs1'⟩ : ∃ s, s = snA L x := ⟨_, rfl⟩
    obtain ⟨t1, ht1⟩ : ∃ s, s = stA L x := ⟨_, rfl⟩
    have hSk2 : S[k] = ((x : Int), s1', t1) := by
      rw [hSk, hs1', ht1]
      exact Prod.ext htk rfl
    rw [← hs1', ← ht1] at hDx2 hst
    rw [← ht1] at hbx
    clear hSk hDx hD htk hs1' ht1
    have sD := OwnO.sl (f := fJ) (fun _ => rfl) (by decide) ho
    refine idx (cxg _) (e := 52) rfl sC k rfl hkS (fun b9 o9 cs hcs hR hcell2 => ?_)
    rw [hSk2] at hR
    subst hR
    refine ldn (cxg _) (i := 2) rfl hcell2 rfl ?_
    intro b10
    refine idx (cxg _) (e := 52) rfl sD x rfl hxD (fun b9 o9 cs hcs hR hcell3 => ?_)
    rw [hDx2] at hR
    subst hR
    refine ld1 (cxg _) (i := 1) rfl (hcell3 2 _ rfl) rfl ?_
    refine qRemI (by omega) (by omega) ?_
    have hlm : lat % 4 = (d : Int) := by rw [hd]; omega
    rw [hlm]
    have hd3 : d ≤ 3 := by omega
    have hkd : k * d ≤ 24 * 3 := Nat.mul_le_mul (by omega) hd3
    have hkd2 : (k : Int) * (d : Int) = ((k * d : Nat) : Int) := (Int.natCast_mul k d).symm
    refine nw (by omega) (by omega) ?_
    refine nwEq (y := ((k * d : Nat) : Int)) hkd2 (by omega) (by omega) ?_
    refine nw (by dsimp only; omega) (by dsimp only; omega) ?_
    refine oidxN (cxg _) (e := 52) rfl (o := ⟨oL.a, oL.n, oL.c, hL2⟩) ho x rfl hxD fun b7 hb7 => ?_
    refine ostF (f := fJ) (cxg _) (sz := 3) (fo := 2) (fun _ => rfl) (i := 1) (o := ⟨oL.a, oL.n, oL.c, hL2⟩) rfl hb7 ho hxD (by decide) rfl rfl ((x : Int), s1', t1 + ((k * d : Nat) : Int)) rfl rfl (by rw [hDx2]; rfl) fun o2 f1 f2 f3 ho2 => ?_
    obtain ⟨xa, xn, xc, h3⟩ := o2
    simp only at f1 f2 f3
    subst f1 f2 f3
    refine nw (by omega) (by omega) ?_
    exact ⟨(k + 1, h3), ⟨by dsimp only; omega, by dsimp only; rw [hst]; exact ho2⟩, by dsimp only; omega, Ent.mk (fun _ _ h => h.pick [0, 1, 2] rfl rfl) rfl rfl⟩
  · have hkn : k = TT.length := by omega
    subst hkn
    exact ⟨[.hp hL2], ⟨⟨oL.a, oL.n, oL.c, hL2⟩, rfl, rfl, ho⟩, fun w' h => h.pick [0, 1] rfl rfl⟩
end
end Go.Proofs.YtnlkffccobdbjaaGreat
