/- Contract of the reference's Cycle. Its premises are its own. -/
import Derived.Test.YtdjhgcpmipglfaaYL7
namespace Go.Proofs.Ytdjhgcpmipglfaa
open Go Go.RowKit Go.Dw
def cst (N : Nat) (E : List (Int × Int)) (s p : Int × Int) : Int × Int :=
  if hasF E p.1 p.2 && decide (0 ≤ dz (dst N E p.2 p.1)) && (decide (s.2 < 0) || decide (dz (dst N E p.2 p.1) + 1 < s.1)) then (dz (dst N E p.2 p.1) + 1, p.1) else s
def rowP (i k : Nat) : List (Int × Int) := (List.range k).map fun b : Nat => ((i : Int), (b : Int))
def prP (N a : Nat) : List (Int × Int) := (List.range a).flatMap fun i => rowP i N
def scanR (N : Nat) (E : List (Int × Int)) : Int × Int := (prP N N).foldl (cst N E) (0, -1)
def rcy (N : Nat) (E : List (Int × Int)) : List Int := if (scanR N E).2 < 0 then [] else (wkR N E (scanR N E).2 (scanR N E).1.toNat (scanR N E).2).take (scanR N E).1.toNat
def rce (N : Nat) (E : List (Int × Int)) : Int := if (scanR N E).2 < 0 then 10 else 0
theorem prP_succ (N a : Nat) : prP N (a + 1) = prP N a ++ rowP a N := by
  unfold prP; rw [List.range_succ, List.flatMap_append]; simp
theorem rowP_succ (i k : Nat) : rowP i (k + 1) = rowP i k ++ [((i : Int), (k : Int))] := by
  unfold rowP; rw [List.range_succ, List.map_append]; rfl
def okS (N : Nat) (s : Int × Int) : Prop := s.2 < 0 ∨ ((0 ≤ s.2 ∧ s.2 < N) ∧ 1 ≤ s.1 ∧ s.1 ≤ N)
theorem dz_lt {N : Nat} {E : List (Int × Int)} {x y : Int} (h : 0 ≤ dz (dst N E x y)) : dz (dst N E x y) < N := by
  cases hd : dst N E x y with
  | none => rw [hd] at h; simp [dz] at h
  | some s => have := (dst_some hd).1; simp only [dz]; omega
theorem dz_bd {N : Nat} (E : List (Int × Int)) (x y : Int) : -1 ≤ dz (dst N E x y) ∧ dz (dst N E x y) ≤ N := by
  cases hd : dst N E x y with
  | none => simp only [dz]; omega
  | some s => have := (dst_some hd).1; simp only [dz]; omega
set_option maxRecDepth 10000 in
theorem RCycle_spec {a : Option Addr} {n c : Nat} {E : List (Int × Int)} (N : Nat) (w : World) (hL : Sl (encF fE) 2 (Hp.whole w) a n c E) (hG : Gr N E) :
    CallsE Try.prog 35 #[gv N a n c] w (RetI w (rcy N E) (rce N E)) := by
  have hlen := hL.len
  have hN := hG.hN
  have hEl := hG.len
  have htl : (tabF N E).length = N := by simp [tabF]
  refine enter (X := cx 74) (cxg _) (args := [.agg #[.int .i64 N, .slice a n c]]) [.tmp 2, .tmp 3] Try.func35 rfl rfl rfl rfl rfl ?_
  intro b1
  refine call (fun w' hm => Table_spec N w' (hL.mono (encF_mono _) (hm 0 _ rfl)) hG) ?_
  rintro _ _ ⟨a1, c1, h1, rfl, rfl, hT⟩
  refine NeedL.mk (Nat × Int × Int) (fun g => [(1, .bx 1 0), (4, .v (.slice a1 N c1)), (5, .v (.int .i64 g.2.1)), (6, .v (.int .i64 g.2.2)), (7, .v (.int .i64 g.1))]) (fun _ => [.hp (Hp.whole w), .box b1 [.int .i64 N, .slice a n c] 35, .hp h1])
    (fun g => g.1 ≤ N ∧ (g.2.1, g.2.2) = (prP N g.1).foldl (cst N E) (0, -1) ∧ okS N (g.2.1, g.2.2)) (fun g => N - g.1) (0, 0, -1) ⟨Nat.zero_le _, rfl, .inl (by decide)⟩ (Ent.mk (fun _ _ h => h) rfl rfl) ?_
  rintro ⟨x, s1, s2⟩ ⟨hx, hs, hok⟩
  dsimp only at *
  refine bsplitd (fun hlt => ?_) (fun hge => ?_)
  · refine NeedL.mk (Nat × Int × Int) (fun g => [(1, .bx 1 0), (4, .v (.slice a1 N c1)), (5, .v (.int .i64 g.2.1)), (6, .v (.int .i64 g.2.2)), (7, .v (.int .i64 x)), (8, .v (.int .i64 g.1))]) (fun _ => [.hp (Hp.whole w), .box b1 [.int .i64 N, .slice a n c] 35, .hp h1])
      (fun g => g.1 ≤ N ∧ (g.2.1, g.2.2) = (prP N x ++ rowP x g.1).foldl (cst N E) (0, -1) ∧ okS N (g.2.1, g.2.2)) (fun g => N - g.1) (0, s1, s2) ⟨Nat.zero_le _, by dsimp only; rw [hs]; simp [rowP], hok⟩ (Ent.mk (fun _ _ h => h) rfl rfl) ?_
    clear hs hok s1 s2
    rintro ⟨y, s1, s2⟩ ⟨hy, hs, hok⟩
    dsimp only at *
    refine bsplitd (fun hly => ?_) (fun hgy => ?_)
    · have hyt : y < (tabF N E).length := by omega
      have hxt : x < ((List.range N).map fun b : Nat => dz (dst N E y b)).length := by simp; omega
      have st : (prP N x ++ rowP x (y + 1)).foldl (cst N E) (0, -1) = cst N E (s1, s2) ((x : Int), (y : Int)) := by
        rw [rowP_succ, ← List.append_assoc, List.foldl_append, ← hs]; rfl
      have bd := dz_bd (N := N) E y x
      have hs1 : -1 ≤ s2 → s2 < 0 ∨ s1 ≤ 64 := fun _ => by unfold okS at hok; dsimp only at hok; omega
      have no : cst N E (s1, s2) ((x : Int), (y : Int)) = (s1, s2) → (y + 1 ≤ N ∧ (s1, s2) = (prP N x ++ rowP x (y + 1)).foldl (cst N E) (0, -1) ∧ okS N (s1, s2)) := fun h => ⟨by omega, by rw [st, h], hok⟩
      refine hideQ (fun q' hq' => ?_)
      refine callV _ (fun w' hm => Has_spec N x y w' (hL.mono (encF_mono _) (hm 0 _ rfl)) (by omega)) ?_
      refine bsplit (fun hh => ?_) (fun hh => ?_)
      · refine idx (cxg _) (e := 42) rfl hT y rfl hyt (fun b o cs hcs hR hcell => ?_)
        obtain ⟨a3, n3, c3, rfl, hs3⟩ := hR
        rw [tab_get hyt] at hs3
        refine ld1 (cxg _) (i := 2) rfl (hcell 0 _ rfl) rfl ?_
        refine idx (cxg _) (e := 3) rfl hs3 x rfl hxt (fun b o cs hcs hR hcell => ?_)
        subst hR
        refine ld1 (cxg _) (i := 2) rfl (hcell 0 _ rfl) rfl ?_
        refine bsplitd (fun hd => ?_) (fun hd => ?_)
        · rw [row_get hxt] at hd
          have yes : (s2 < 0 ∨ dz (dst N E y x) + 1 < s1) → (y + 1 ≤ N ∧ (dz (dst N E y x) + 1, (x : Int)) = (prP N x ++ rowP x (y + 1)).foldl (cst N E) (0, -1) ∧ okS N (dz (dst N E y x) + 1, (x : Int))) := fun h => by
            refine ⟨by omega, ?_, .inr ⟨by dsimp only; omega, by dsimp only; omega, by have := dz_lt hd; dsimp only; omega⟩⟩
            rw [st]; unfold cst; dsimp only
            rw [hh, decide_eq_true (by omega : 0 ≤ dz (dst N E y x)), if_pos]
            rcases h with h | h
            · rw [decide_eq_true h]; rfl
            · rw [decide_eq_true h]; simp
          refine bsplitd (fun h2 => ?_) (fun h2 => ?_)
          · refine hq' _ _ ?_
            refine hideQ (fun q' hq' => ?_)
            refine idx (cxg _) (e := 42) rfl hT y rfl hyt (fun b o cs hcs hR hcell => ?_)
            obtain ⟨a3, n3, c3, rfl, hs3⟩ := hR
            rw [tab_get hyt] at hs3
            refine ld1 (cxg _) (i := 2) rfl (hcell 0 _ rfl) rfl ?_
            refine idx (cxg _) (e := 3) rfl hs3 x rfl hxt (fun b o cs hcs hR hcell => ?_)
            subst hR
            refine ld1 (cxg _) (i := 2) rfl (hcell 0 _ rfl) rfl ?_
            refine nw (by rw [row_get hxt]; omega) (by rw [row_get hxt]; omega) ?_
            refine hq' _ _ ?_
            refine nw (by omega) (by omega) ?_
            exact ⟨(y + 1, dz (dst N E y x) + 1, (x : Int)), yes (.inl h2), by dsimp only; omega, Ent.mk (fun _ _ h => h) (by rw [row_get hxt]; rfl) rfl⟩
          · refine idx (cxg _) (e := 42) rfl hT y rfl hyt (fun b o cs hcs hR hcell => ?_)
            obtain ⟨a3, n3, c3, rfl, hs3⟩ := hR
            rw [tab_get hyt] at hs3
            refine ld1 (cxg _) (i := 2) rfl (hcell 0 _ rfl) rfl ?_
            refine idx (cxg _) (e := 3) rfl hs3 x rfl hxt (fun b o cs hcs hR hcell => ?_)
            subst hR
            refine ld1 (cxg _) (i := 2) rfl (hcell 0 _ rfl) rfl ?_
            refine nw (by rw [row_get hxt]; omega) (by rw [row_get hxt]; omega) ?_
            refine hq' _ _ ?_
            refine bsplitd (fun h3 => ?_) (fun h3 => ?_)
            · rw [row_get hxt] at h3
              refine hideQ (fun q' hq' => ?_)
              refine idx (cxg _) (e := 42) rfl hT y rfl hyt (fun b o cs hcs hR hcell => ?_)
              obtain ⟨a3, n3, c3, rfl, hs3⟩ := hR
              rw [tab_get hyt] at hs3
              refine ld1 (cxg _) (i := 2) rfl (hcell 0 _ rfl) rfl ?_
              refine idx (cxg _) (e := 3) rfl hs3 x rfl hxt (fun b o cs hcs hR hcell => ?_)
              subst hR
              refine ld1 (cxg _) (i := 2) rfl (hcell 0 _ rfl) rfl ?_
              refine nw (by rw [row_get hxt]; omega) (by rw [row_get hxt]; omega) ?_
              refine hq' _ _ ?_
              refine nw (by omega) (by omega) ?_
              exact ⟨(y + 1, dz (dst N E y x) + 1, (x : Int)), yes (.inr h3), by dsimp only; omega, Ent.mk (fun _ _ h => h) (by rw [row_get hxt]; rfl) rfl⟩
            · rw [row_get hxt] at h3
              refine nw (by omega) (by omega) ?_
              refine ⟨(y + 1, s1, s2), no ?_, by dsimp only; omega, Ent.mk (fun _ _ h => h) rfl rfl⟩
              unfold cst; dsimp only
              rw [decide_eq_false h2, decide_eq_false h3, if_neg (by simp)]
        · rw [row_get hxt] at hd
          refine hq' _ _ ?_
          refine nw (by omega) (by omega) ?_
          refine ⟨(y + 1, s1, s2), no ?_, by dsimp only; omega, Ent.mk (fun _ _ h => h) rfl rfl⟩
          unfold cst; dsimp only
          rw [decide_eq_false (by omega : ¬ 0 ≤ dz (dst N E y x)), if_neg (by simp)]
      · refine hq' _ _ ?_
        refine nw (by omega) (by omega) ?_
        refine ⟨(y + 1, s1, s2), no ?_, by dsimp only; omega, Ent.mk (fun _ _ h => h) rfl rfl⟩
        unfold cst; dsimp only
        rw [hh, if_neg (by simp)]
    · rw [show y = N by omega, ← prP_succ] at hs
      refine nw (by omega) (by omega) ?_
      exact ⟨(x + 1, s1, s2), ⟨by dsimp only; omega, hs, hok⟩, by dsimp only; omega, Ent.mk (fun _ _ h => h) rfl rfl⟩
  · rw [show x = N by omega] at hs
    have hsc : scanR N E = (s1, s2) := hs.symm
    refine bsplitd (fun hneg => ?_) (fun hpos => ?_)
    · refine ⟨[.hp Hp.emp], ⟨Os.nil, ?_, rfl, ?_⟩, fun w' h => (h.pick [0] rfl rfl).emp⟩
      · unfold rce; rw [hsc, if_pos hneg]; rfl
      · unfold rcy; rw [hsc, if_pos hneg]; exact OwnO.nil _ _ _
    · obtain ⟨hr, hb1, hb2⟩ : (0 ≤ s2 ∧ s2 < N) ∧ 1 ≤ s1 ∧ s1 ≤ N := by
        rcases hok with h | h
        · exact absurd h hpos
        · exact h
      obtain ⟨m, rfl⟩ : ∃ m : Nat, s1 = m := ⟨s1.toNat, by omega⟩
      refine call (fun w' hm => walk_spec N s2 s2 m w' (hL.mono (encF_mono _) (hm 0 _ rfl)) (hT.mono (encS_mono (encF_mono _) _) (hm 2 _ rfl)) hG hr hr (by omega)) ?_
      rintro _ _ ⟨o5, rfl, rfl, ho5⟩
      have h5 := ho5.len
      rw [wkR_len] at h5
      have hcap := (OwnO.sl (f := fI) (fun _ => rfl) (by decide) ho5).cap
      refine slT (cxg _) (e := 3) rfl m rfl (by omega) ?_
      refine ⟨[.hp o5.h], ⟨⟨o5.a, m, o5.c, o5.h⟩, ?_, rfl, ?_⟩, fun w' h => h.pick [0, 3] rfl rfl⟩
      · unfold rce; rw [hsc, if_neg hpos]; rfl
      · unfold rcy; rw [hsc, if_neg hpos]
        have := OwnO.take (f := fI) (fun _ => rfl) ho5 m (by omega)
        simpa using this
end Go.Proofs.Ytdjhgcpmipglfaa
