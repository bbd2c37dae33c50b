/- Contracts of schedule.only, distinct. Their premises are their own. -/
import Derived.Test.YtnlkffccobdbjaaGreatYWu
import Derived.Test.YtnlkffccobdbjaaGreatYS1
namespace Go.Proofs.YtnlkffccobdbjaaGreat
open Go Go.RowKit Go.Dw
def othP (TT : List Tk) (SS : List Sn) (B : List Int) (i : Nat) (k : Nat) : Bool := caA TT SS i k && !decide ((k : Int) ∈ B)
def onP (TT : List Tk) (SS : List Sn) (B H R : List Int) (least after : Int) (i : Nat) : Bool := !decide (H.getD i 0 < least) && (!decide (R.getD i 0 < after) && !((List.range SS.length).any (othP TT SS B i)))
def onK (TT : List Tk) (SS : List Sn) (B H R : List Int) (least after : Int) (k : Nat) : List Int := natL ((List.range k).filter (onP TT SS B H R least after))
def onF (TT : List Tk) (SS : List Sn) (B H R : List Int) (least after : Int) : List Int := onK TT SS B H R least after TT.length
theorem onK_succ (TT : List Tk) (SS : List Sn) (B H R : List Int) (least after : Int) (k : Nat) : onK TT SS B H R least after (k + 1) = if onP TT SS B H R least after k then onK TT SS B H R least after k ++ [(k : Int)] else onK TT SS B H R least after k := by
  unfold onK natL
  rw [List.range_succ, List.filter_append, List.map_append]
  by_cases h : onP TT SS B H R least after k = true
  · simp [h]
  · simp [h]
theorem onK_len (TT : List Tk) (SS : List Sn) (B H R : List Int) (least after : Int) (k : Nat) : (onK TT SS B H R least after k).length ≤ k := by
  unfold onK natL
  rw [List.length_map]
  exact Nat.le_trans (List.length_filter_le _ _) (by simp)
theorem onF_mem {TT : List Tk} {SS : List Sn} {B H R : List Int} {least after : Int} {x : Int} (h : x ∈ onF TT SS B H R least after) : 0 ≤ x ∧ x < (TT.length : Int) := by
  unfold onF onK natL at h
  obtain ⟨v, hv, rfl⟩ := List.mem_map.1 h
  have := List.mem_range.1 (List.mem_filter.1 hv).1
  omega
def disF (L : List Int) : List Int := ddI (srtI (fun a b : Int => decide (a < b)) L)
section
variable {a a' : Option Addr} {n c n' c' : Nat} {TT : List Tk} {SS : List Sn}
set_option maxRecDepth 10000 in
theorem only_spec {ab : Option Addr} {nb cb : Nat} {ah : Option Addr} {nh ch : Nat} {ar : Option Addr} {nr cr : Nat} {B H R : List Int} (least after : Int) (w : World) (hT : Sl encT 4 (Hp.whole w) a n c TT) (hS : Sl encN 2 (Hp.whole w) a' n' c' SS) (hs : Sml TT SS) (hB : Sl (encF fI) 1 (Hp.whole w) ab nb cb B) (hH : Sl (encF fI) 1 (Hp.whole w) ah nh ch H) (hR : Sl (encF fI) 1 (Hp.whole w) ar nr cr R)
    (hHl : H.length = TT.length) (hRl : R.length = TT.length) (hBl : B.length < 1000000) :
    CallsE Tryz.prog 51 #[sv a n c a' n' c', .slice ab nb cb, .slice ah nh ch, .slice ar nr cr, .int .i64 least, .int .i64 after] w (Ret w fun v cs => ∃ o : Dw.Os, v = o.v ∧ cs = [.hp o.h] ∧ OwnO fI 3 1 o (onF TT SS B H R least after)) := by
  have lT := hT.len
  have lS := hS.len
  have lB := hB.len
  have sn := hs.n
  have sm := hs.m
  refine enter (X := cx 65) (cxg _) (args := [.agg #[.slice a n c, .slice a' n' c'], .slice ab nb cb, .slice ah nh ch, .slice ar nr cr, .int .i64 least, .int .i64 after]) [.tmp 12] Tryz.func51 rfl rfl rfl rfl rfl ?_
  intro b6
  refine NeedL.mk (Nat × Dw.Os) (fun g => [(1, .v (.slice ab nb cb)), (2, .v (.slice ah nh ch)), (3, .v (.slice ar nr cr)), (4, .v (.int .i64 least)), (5, .v (.int .i64 after)), (6, .bx 1 0), (13, .v g.2.v), (19, .v (.int .i64 n)), (20, .v (.int .i64 g.1))]) (fun g => [.hp (Hp.whole w), .box b6 [.slice a n c, .slice a' n' c'] 25, .hp g.2.h])
    (fun g => g.1 ≤ n ∧ OwnO fI 3 1 g.2 (onK TT SS B H R least after g.1)) (fun g => n - g.1) (0, Os.nil) ⟨Nat.zero_le _, OwnO.nil _ _ _⟩ (Ent.mk (fun _ _ h => h.emp) rfl rfl) ?_
  rintro ⟨i, o⟩ ⟨hi, ho⟩
  dsimp only at *
  refine bsplitd (fun h1 => ?_) (fun h1 => ?_)
  · have hiT : i < TT.length := by omega
    have kH : i < H.length := by omega
    have kR : i < R.length := by omega
    have hst := onK_succ TT SS B H R least after i
    obtain ⟨u, hu⟩ : ∃ u, u = H[i] := ⟨_, rfl⟩
    obtain ⟨v, hv⟩ : ∃ v, v = R[i] := ⟨_, rfl⟩
    have hP : onP TT SS B H R least after i = (!decide (u < least) && (!decide (v < after) && !((List.range SS.length).any (othP TT SS B i)))) := by unfold onP; rw [gD kH, gD kR, ← hu, ← hv]
    have hkl := onK_len TT SS B H R least after i
    have skip : onP TT SS B H R least after i = false → onK TT SS B H R least after (i + 1) = onK TT SS B H R least after i := fun h => by rw [hst, if_neg (by rw [h]; decide)]
    refine idx (cxg _) (e := 3) rfl hH i rfl kH (fun b9 o9 cs hcs hR' hcell2 => ?_)
    rw [← hu] at hR'
    subst hR'
    refine ld1 (cxg _) (i := 0) rfl (hcell2 0 _ rfl) rfl ?_
    refine bsplitd (fun h3 => ?_) (fun h3 => ?_)
    · refine nw (by omega) (by omega) ?_
      exact ⟨(i + 1, o), ⟨by dsimp only; omega, by dsimp only; rw [skip (by rw [hP, decide_eq_true h3]; rfl)]; exact ho⟩, by dsimp only; omega, Ent.mk (fun _ _ h => h) rfl rfl⟩
    refine idx (cxg _) (e := 3) rfl hR i rfl kR (fun b9 o9 cs hcs hR' hcell4 => ?_)
    rw [← hv] at hR'
    subst hR'
    refine ld1 (cxg _) (i := 0) rfl (hcell4 0 _ rfl) rfl ?_
    refine bsplitd (fun h5 => ?_) (fun h5 => ?_)
    · refine nw (by omega) (by omega) ?_
      exact ⟨(i + 1, o), ⟨by dsimp only; omega, by dsimp only; rw [skip (by rw [hP, decide_eq_true h5, decide_eq_false h3]; rfl)]; exact ho⟩, by dsimp only; omega, Ent.mk (fun _ _ h => h) rfl rfl⟩
    refine NeedL.mk (Nat × Bool) (fun g => [(1, .v (.slice ab nb cb)), (2, .v (.slice ah nh ch)), (3, .v (.slice ar nr cr)), (4, .v (.int .i64 least)), (5, .v (.int .i64 after)), (6, .bx 1 0), (13, .v o.v), (14, .v (.int .i64 i)), (15, .v (.bool g.2)), (19, .v (.int .i64 n)), (20, .v (.int .i64 i)), (39, .v (.int .i64 n')), (40, .v (.int .i64 g.1))]) (fun _ => [.hp (Hp.whole w), .box b6 [.slice a n c, .slice a' n' c'] 25, .hp o.h])
      (fun g => g.1 ≤ n' ∧ g.2 = (List.range g.1).any (othP TT SS B i)) (fun g => n' - g.1) (0, false) ⟨Nat.zero_le _, rfl⟩ (Ent.mk (fun _ _ h => h) rfl rfl) ?_
    rintro ⟨k, f⟩ ⟨hk, hf⟩
    dsimp only at *
    have hfs : (List.range (k + 1)).any (othP TT SS B i) = (f || othP TT SS B i k) := by rw [List.range_succ, List.any_append, ← hf]; simp
    refine bsplitd (fun h6 => ?_) (fun h6 => ?_)
    · have hkS : k < SS.length := by omega
      refine bsplit (fun h7 => ?_) (fun h7 => ?_)
      · refine nw (by omega) (by omega) ?_
        exact ⟨(k + 1, true), ⟨by dsimp only; omega, by dsimp only; rw [hfs, h7]; rfl⟩, by dsimp only; omega, Ent.mk (fun _ _ h => h) rfl rfl⟩
      obtain ⟨ca, hca⟩ : ∃ ca, ca = caA TT SS i k := ⟨_, rfl⟩
      have kA : ∀ w' : World, Sl encT 4 (Hp.whole w') a n c TT → Sl encN 2 (Hp.whole w') a' n' c' SS → CallsE Tryz.prog 88 #[sv a n c a' n' c', .int .i64 k, .int .i64 i] w' (RetV w' (.bool ca)) := fun w' h1 h2 => by
        rw [hca]; unfold caA; rw [tk_get hiT, gD hkS]; exact able_spec k i w' h1 h2 hiT hkS hs
      refine callV _ (fun w' hm => kA w' (hT.mono encT_mono (hm 0 _ rfl)) (hS.mono encN_mono (hm 0 _ rfl))) ?_
      refine bsplit (fun h8 => ?_) (fun h8 => ?_)
      · refine callV _ (fun w' hm => containsInts_spec (k : Int) w' (hB.mono (encF_mono _) (hm 0 _ rfl)) (by omega)) ?_
        refine nw (by omega) (by omega) ?_
        exact ⟨(k + 1, !decide ((k : Int) ∈ B)), ⟨by dsimp only; omega, by dsimp only; rw [hfs, h7]; unfold othP; rw [← hca, h8]; rfl⟩, by dsimp only; omega, Ent.mk (fun _ _ h => h) rfl rfl⟩
      · refine nw (by omega) (by omega) ?_
        exact ⟨(k + 1, false), ⟨by dsimp only; omega, by dsimp only; rw [hfs, h7]; unfold othP; rw [← hca, h8]; rfl⟩, by dsimp only; omega, Ent.mk (fun _ _ h => h) rfl rfl⟩
    · have hkn : k = SS.length := by omega
      rw [hkn] at hf
      rw [← hf, decide_eq_false h3, decide_eq_false h5] at hP
      clear hf
      cases f with
      | false =>
        rw [if_pos (by rw [hP]; rfl)] at hst
        intro b61
        refine appO (f := fI) (cxg _) (e := 3) rfl (i := 2) rfl ho (j := 3) (i : Int) rfl rfl rfl rfl (by omega) (fun o2 ho2 => ?_)
        refine nw (by omega) (by omega) ?_
        exact ⟨(i + 1, o2), ⟨by dsimp only; omega, by dsimp only; rw [hst]; exact ho2⟩, by dsimp only; omega, Ent.mk (fun _ _ h => h.pick [0, 1, 2] rfl rfl) rfl rfl⟩
      | true =>
        refine nw (by omega) (by omega) ?_
        exact ⟨(i + 1, o), ⟨by dsimp only; omega, by dsimp only; rw [skip (by rw [hP]; rfl)]; exact ho⟩, by dsimp only; omega, Ent.mk (fun _ _ h => h) rfl rfl⟩
  · have e : i = TT.length := by omega
    rw [e] at ho
    exact ⟨[.hp o.h], ⟨o, rfl, rfl, ho⟩, fun w' h => h.pick [0, 2] rfl rfl⟩
theorem distinct_spec {al : Option Addr} {nl cl : Nat} {L : List Int} (w : World) (hL : Sl (encF fI) 1 (Hp.whole w) al nl cl L) (hl : L.length ≤ 12) :
    CallsE Tryz.prog 50 #[.slice al nl cl] w (Ret w fun v cs => ∃ o : Dw.Os, v = o.v ∧ cs = [.hp o.h] ∧ OwnO fI 3 1 o (disF L)) := by
  have lL := hL.len
  refine enter (X := cx 10) (cxg _) (args := [.slice al nl cl]) [.tmp 2] Tryz.func50 rfl rfl rfl rfl rfl ?_
  refine call (fun w' hm => cloneInts_spec w' (hL.mono (encF_mono _) (hm 0 _ rfl)) (by omega)) ?_
  rintro _ _ ⟨o, rfl, rfl, ho⟩
  refine callM (i := 1) rfl (fun w' hm => sort_spec12 w' (hm 1 _ rfl) ho hl) ?_
  rintro _ h2 _ ⟨rfl, rfl, ho2⟩
  refine callM (i := 1) rfl (fun w' hm => compactI_spec (o := ⟨o.a, o.n, o.c, h2⟩) w' (hm 1 _ rfl) ho2 (by rw [srtI_len]; omega)) ?_
  rintro _ h3 _ ⟨o3, rfl, rfl, rfl, ho3⟩
  exact ⟨[.hp o3.h], ⟨o3, rfl, rfl, ho3⟩, fun w' h => h⟩
end
end Go.Proofs.YtnlkffccobdbjaaGreat
