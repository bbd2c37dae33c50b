/- Contract of the model of layer 50: of. Its premises are its own. -/
import Derived.Test.YtnlkffccobdbjaaGreatYXt
import Derived.Test.YtnlkffccobdbjaaGreatXQ
namespace Go.Proofs.YtnlkffccobdbjaaGreat
open Go Go.RowKit Go.Dw
def fU (x : Int) : List Value := [.int .u8 x]
set_option maxRecDepth 10000 in
theorem of_spec {oa : Option Addr} {on oc : Nat} {O : List Int} (N : Nat) (w : World) (hO : Sl (encF fU) 1 (Hp.whole w) oa on oc O) (hb : ∀ u ∈ O, 0 ≤ u ∧ u ≤ 255) (hN : N ≤ 1000) :
    CallsE Tryz.prog 23 #[.slice oa on oc, .int .i64 N] w (Ret w fun v cs => ∃ o : Dw.Os, v = o.v ∧ cs = [.hp o.h] ∧ OwnO fI 3 1 o (dwnF O N)) := by
  have lO := hO.len
  refine enter (X := cx 49) (cxg _) (args := [.slice oa on oc, .int .i64 N]) [.tmp 4] Tryz.func23 rfl rfl rfl rfl rfl ?_
  refine NeedL.mk (Nat × Dw.Os) (fun g => [(0, .v (.slice oa on oc)), (1, .v (.int .i64 N)), (5, .v g.2.v), (6, .v (.slice none 0 0)), (10, .v (.int .i64 N)), (11, .v (.int .i64 g.1))]) (fun g => [.hp (Hp.whole w), .hp g.2.h])
    (fun g => g.1 ≤ N ∧ OwnO fI 3 1 g.2 (natL (List.range g.1))) (fun g => N - g.1) (0, Os.nil) ⟨Nat.zero_le _, OwnO.nil _ _ _⟩ (Ent.mk (fun _ _ h => h.emp) rfl rfl) ?_
  rintro ⟨k, o⟩ ⟨hk, ho⟩
  dsimp only at *
  refine bsplitd (fun h1 => ?_) (fun h1 => ?_)
  · intro b16
    refine appO (f := fI) (cxg _) (e := 3) rfl (i := 1) rfl ho (j := 2) (k : Int) rfl rfl rfl rfl (by simp [natL]; omega) (fun o2 ho2 => ?_)
    refine nw (by omega) (by omega) ?_
    refine ⟨(k + 1, o2), ⟨by dsimp only; omega, ?_⟩, by dsimp only; omega, Ent.mk (fun _ _ h => h.pick [0, 1] rfl rfl) rfl rfl⟩
    have e : natL (List.range (k + 1)) = natL (List.range k) ++ [(k : Int)] := by unfold natL; rw [List.range_succ, List.map_append]; rfl
    dsimp only
    rw [e]; exact ho2
  · obtain rfl : k = N := by omega
    clear h1 hk
    refine NeedL.mk (Nat × Dw.Os × Dw.Os) (fun g => [(0, .v (.slice oa on oc)), (5, .v g.2.1.v), (6, .v g.2.2.v), (19, .v (.int .i64 k)), (20, .v (.int .i64 g.1))]) (fun g => [.hp (Hp.whole w), .hp g.2.1.h, .hp g.2.2.h])
      (fun g => g.1 ≤ k ∧ OwnO fI 3 1 g.2.1 (dwnK O k g.1).1 ∧ OwnO fI 3 1 g.2.2 (dwnK O k g.1).2) (fun g => k - g.1) (0, o, Os.nil) ⟨Nat.zero_le _, ho, OwnO.nil _ _ _⟩ (Ent.mk (fun _ _ h => h.emp) rfl rfl) ?_
    clear ho
    rintro ⟨m, p, r⟩ ⟨hm, hp, hr⟩
    dsimp only at *
    refine bsplitd (fun h2 => ?_) (fun h2 => ?_)
    · obtain ⟨g1, g2, g3⟩ := of_perm O k m hm
      obtain ⟨A, hA⟩ : ∃ A, A = (dwnK O k m).1 := ⟨_, rfl⟩
      obtain ⟨B, hB⟩ : ∃ B, B = (dwnK O k m).2 := ⟨_, rfl⟩
      obtain ⟨t, ht⟩ : ∃ t, t = dwnI O k m := ⟨_, rfl⟩
      have htl : t < A.length := by rw [ht, hA]; exact dwnI_lt (by omega)
      have hst : dwnK O k (m + 1) = (A.eraseIdx t, B ++ [A[t]]) := by rw [dwnK_succ, ← ht, ← hA, ← hB, gD htl]
      have ht2 : t = if m < O.length then (O.getD m 0).toNat % A.length else 0 := by rw [ht, hA]; rfl
      rw [← hA] at g2 hp
      rw [← hB] at g3 hr
      clear g1 ht hA hB
      have lp := hp.len
      have sP := OwnO.sl (f := fI) (fun _ => rfl) (by decide) hp
      refine bsplitd (fun h3 => ?_) (fun h3 => ?_)
      · have hmO : m < O.length := by omega
        obtain ⟨u, hu⟩ : ∃ u, u = O[m] := ⟨_, rfl⟩
        have hub := hb u (by rw [hu]; exact List.getElem_mem hmO)
        rw [if_pos hmO, gD hmO, ← hu] at ht2
        refine idx (cxg _) (e := 5) rfl hO m rfl hmO (fun b9 o9 cs hcs hR hcell => ?_)
        rw [← hu] at hR
        subst hR
        refine ld1 (cxg _) (i := 0) rfl (hcell 0 _ rfl) rfl ?_
        refine nw (by omega) (by omega) ?_
        refine qRemI (by omega) (by omega) ?_
        have et : u % (p.n : Int) = (t : Int) := by
          have e0 : (u.toNat : Int) = u := Int.toNat_of_nonneg hub.1
          rw [ht2, lp, Int.natCast_emod, e0]
        rw [et]
        refine idx (cxg _) (e := 3) rfl sP t rfl htl (fun b9 o9 cs hcs hR hcell => ?_)
        subst hR
        refine ld1 (cxg _) (i := 1) rfl (hcell 0 _ rfl) rfl ?_
        intro b40
        refine appO (f := fI) (cxg _) (e := 3) rfl (i := 2) rfl hr (j := 3) A[t] rfl rfl rfl rfl (by omega) (fun o2 ho2 => ?_)
        refine nw (by omega) (by omega) ?_
        refine callM (i := 1) rfl (fun w' hm => deleteInts_spec t w' (hm 1 _ rfl) hp htl (by omega)) ?_
        rintro _ h2 _ ⟨rfl, rfl, hp2⟩
        refine nw (by omega) (by omega) ?_
        refine ⟨(m + 1, ⟨p.a, p.n - 1, p.c, h2⟩, o2), ⟨by dsimp only; omega, by rw [hst]; exact hp2, by rw [hst]; exact ho2⟩, by dsimp only; omega, Ent.mk (fun _ _ h => h.pick [0, 1, 2] rfl rfl) rfl rfl⟩
      · have hmO : ¬ m < O.length := by omega
        rw [if_neg hmO] at ht2
        subst ht2
        refine idx (cxg _) (e := 3) rfl sP 0 rfl htl (fun b9 o9 cs hcs hR hcell => ?_)
        subst hR
        refine ld1 (cxg _) (i := 1) rfl (hcell 0 _ rfl) rfl ?_
        intro b40
        refine appO (f := fI) (cxg _) (e := 3) rfl (i := 2) rfl hr (j := 3) A[0] rfl rfl rfl rfl (by omega) (fun o2 ho2 => ?_)
        refine nw (by omega) (by omega) ?_
        refine callM (i := 1) rfl (fun w' hm => deleteInts_spec 0 w' (hm 1 _ rfl) hp htl (by omega)) ?_
        rintro _ h2 _ ⟨rfl, rfl, hp2⟩
        refine nw (by omega) (by omega) ?_
        refine ⟨(m + 1, ⟨p.a, p.n - 1, p.c, h2⟩, o2), ⟨by dsimp only; omega, by rw [hst]; exact hp2, by rw [hst]; exact ho2⟩, by dsimp only; omega, Ent.mk (fun _ _ h => h.pick [0, 1, 2] rfl rfl) rfl rfl⟩
    · obtain rfl : m = k := by omega
      exact ⟨[.hp r.h], ⟨r, rfl, rfl, hr⟩, fun w' h => h.pick [0, 2] rfl rfl⟩
end Go.Proofs.YtnlkffccobdbjaaGreat
