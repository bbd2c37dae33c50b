/- Contracts of the reference's walk, Path, Tree, Back. Their premises are their own. -/
import Derived.Test.YtdjhgcpmipglfaaYL5
namespace Go.Proofs.Ytdjhgcpmipglfaa
open Go Go.RowKit Go.Dw
/-- the first node behind a that is s edges before b; a if there is none -/
def nxR (N : Nat) (E : List (Int × Int)) (b a : Int) (s : Nat) : Int := (((List.range N).find? fun v : Nat => hasF E a v && decide (dz (dst N E v b) = (s : Int))).map fun v : Nat => (v : Int)).getD a
def wkR (N : Nat) (E : List (Int × Int)) (b : Int) : Nat → Int → List Int
  | 0, a => [a]
  | s + 1, a => a :: wkR N E b s (nxR N E b a s)
theorem wkR_len (N : Nat) (E : List (Int × Int)) (b : Int) : ∀ (s : Nat) (k : Int), (wkR N E b s k).length = s + 1
  | 0, k => rfl
  | s + 1, k => by simp [wkR, wkR_len N E b s]
theorem wkR_cons (N : Nat) (E : List (Int × Int)) (b : Int) (s : Nat) (k : Int) : wkR N E b s k = k :: (wkR N E b s k).tail := by cases s <;> rfl
theorem nxR_rng {N : Nat} {E : List (Int × Int)} {b a : Int} {s : Nat} (ha : 0 ≤ a ∧ a < N) : 0 ≤ nxR N E b a s ∧ nxR N E b a s < N := by
  unfold nxR
  cases h : (List.range N).find? fun v : Nat => hasF E a v && decide (dz (dst N E v b) = (s : Int)) with
  | none => exact ha
  | some v =>
    have := List.mem_range.1 (List.mem_of_find?_eq_some h)
    simp only [Option.map_some, Option.getD_some]; omega
theorem tab_get {N : Nat} {E : List (Int × Int)} {v : Nat} (h : v < (tabF N E).length) : (tabF N E)[v] = (List.range N).map fun b : Nat => dz (dst N E v b) := by simp [tabF]
theorem row_get {N : Nat} {E : List (Int × Int)} {v : Int} {b : Nat} (h : b < ((List.range N).map fun b : Nat => dz (dst N E v b)).length) : ((List.range N).map fun b : Nat => dz (dst N E v b))[b] = dz (dst N E v b) := by simp
theorem walk_spec {a a1 : Option Addr} {n c n1 c1 : Nat} {E : List (Int × Int)} (N : Nat) (x y : Int) (st : Nat) (w : World) (hL : Sl (encF fE) 2 (Hp.whole w) a n c E) (hT : Sl (encS (encF fI) 1) 1 (Hp.whole w) a1 n1 c1 (tabF N E)) (hG : Gr N E)
    (hx : 0 ≤ x ∧ x < N) (hy : 0 ≤ y ∧ y < N) (hst : st ≤ 1000) :
    CallsE Try.prog 80 #[gv N a n c, .slice a1 n1 c1, .int .i64 x, .int .i64 y, .int .i64 st] w (Ret w fun v cs => ∃ o : Dw.Os, v = o.v ∧ cs = [.hp o.h] ∧ OwnO fI 3 1 o (wkR N E y st x)) := by
  have hN := hG.hN
  have hlen := hL.len
  have hEl := hG.len
  obtain ⟨yn, rfl⟩ : ∃ v : Nat, y = v := ⟨_, (Int.toNat_of_nonneg hy.1).symm⟩
  have htl : (tabF N E).length = N := by simp [tabF]
  refine enter (X := cx 49) (cxg _) (args := [.agg #[.int .i64 N, .slice a n c], .slice a1 n1 c1, .int .i64 x, .int .i64 yn, .int .i64 st]) [.tmp 10] Try.func80 rfl rfl rfl rfl rfl ?_
  intro b1 b2
  refine nw (by omega) (by omega) ?_
  have hq0 : OwnO fI 3 1 ⟨some ⟨b2, 0, none⟩, 1, 1, (Ch.box b2 [.int .i64 x] 3).h⟩ [x] := OwnO.box (fun _ => rfl) [x] rfl rfl (by simp)
  refine NeedL.mk (Nat × Int × Dw.Os × List Int) (fun g => [(1, .v (.slice a1 n1 c1)), (2, .v (.int .i64 g.2.1)), (3, .v (.int .i64 yn)), (5, .bx 1 0), (11, .v g.2.2.1.v), (12, .v (.int .i64 ((g.1 : Int) - 1)))])
    (fun g => [.hp (Hp.whole w), .box b1 [.int .i64 N, .slice a n c] 35, .hp g.2.2.1.h])
    (fun g => g.1 ≤ st ∧ (0 ≤ g.2.1 ∧ g.2.1 < N) ∧ OwnO fI 3 1 g.2.2.1 g.2.2.2 ∧ g.2.2.2 ++ (wkR N E yn g.1 g.2.1).tail = wkR N E yn st x) (fun g => g.1) (st, x, ⟨some ⟨b2, 0, none⟩, 1, 1, (Ch.box b2 [.int .i64 x] 3).h⟩, [x])
    ⟨Nat.le_refl _, hx, hq0, (wkR_cons _ _ _ _ _).symm⟩ (Ent.mk (fun _ _ h => Ok.same (s := [.hp (Hp.whole w), .box b1 [.int .i64 N, .slice a n c] 35, .box b2 [.int .i64 x] 3]) (i := 2) (c := .box b2 [.int .i64 x] 3) (d := .hp (Ch.box b2 [.int .i64 x] 3).h) rfl rfl h) rfl rfl) ?_
  clear hq0
  rintro ⟨s, k, o, P⟩ ⟨hs, hk, ho, hP⟩
  dsimp only at *
  have hPl : P.length ≤ st + 1 := by
    have := congrArg List.length hP
    rw [wkR_len, List.length_append] at this
    omega
  refine bsplitd (fun hge => ?_) (fun hlt => ?_)
  · obtain ⟨s', rfl⟩ : ∃ s', s = s' + 1 := ⟨s - 1, by omega⟩
    have hnr : ∀ z, z = nxR N E yn k s' → P ++ [z] ++ (wkR N E yn s' z).tail = wkR N E yn st x := fun z hz => by
      rw [← hP, wkR, ← hz, List.tail_cons, wkR_cons N E yn s' z]; simp
    have hnrg := nxR_rng (E := E) (b := (yn : Int)) (s := s') hk
    refine NeedL.mk Nat (fun v => [(1, .v (.slice a1 n1 c1)), (2, .v (.int .i64 k)), (3, .v (.int .i64 yn)), (5, .bx 1 0), (11, .v o.v), (12, .v (.int .i64 (((s' + 1 : Nat) : Int) - 1))), (13, .v (.int .i64 v))])
      (fun _ => [.hp (Hp.whole w), .box b1 [.int .i64 N, .slice a n c] 35, .hp o.h]) (fun v => v ≤ N ∧ ∀ t ∈ (List.range N).take v, (hasF E k t && decide (dz (dst N E t yn) = (s' : Int))) = false) (fun v => N - v) 0 ⟨Nat.zero_le _, by simp⟩ (Ent.mk (fun _ _ h => h) rfl rfl) ?_
    rintro v ⟨hv, hno⟩
    have hrl : (List.range N).length = N := List.length_range
    refine bsplitd (fun hvl => ?_) (fun hvg => ?_)
    · have hvN : v < N := by omega
      have hvr : (List.range N)[v]'(by omega) = v := List.getElem_range _
      have step : (hasF E k v && decide (dz (dst N E v yn) = (s' : Int))) = false → ∀ t ∈ (List.range N).take (v + 1), (hasF E k t && decide (dz (dst N E t yn) = (s' : Int))) = false := fun h =>
        take_all_step (by omega) hno (by rw [hvr]; exact h)
      refine hideQ (fun q' hq' => ?_)
      refine callV _ (fun w' hm => Has_spec N k v w' (hL.mono (encF_mono _) (hm 0 _ rfl)) (by omega)) ?_
      refine bsplit (fun hh => ?_) (fun hh => ?_)
      · have hvt : v < (tabF N E).length := by omega
        refine idx (cxg _) (e := 42) rfl hT v rfl hvt (fun b o cs hcs hR hcell => ?_)
        obtain ⟨a3, n3, c3, rfl, hs3⟩ := hR
        rw [tab_get hvt] at hs3
        refine ld1 (cxg _) (i := 0) rfl (hcell 0 _ rfl) rfl ?_
        have hyt : yn < ((List.range N).map fun b : Nat => dz (dst N E v b)).length := by simp; omega
        refine idx (cxg _) (e := 3) rfl hs3 yn rfl hyt (fun b o cs hcs hR hcell => ?_)
        subst hR
        refine ld1 (cxg _) (i := 0) rfl (hcell 0 _ rfl) rfl ?_
        rw [row_get hyt]
        refine hq' _ _ ?_
        refine bsplitd (fun hd => ?_) (fun hd => ?_)
        · have hnx : nxR N E yn k s' = v := by
            have hf := find_hit (p := fun v : Nat => hasF E k v && decide (dz (dst N E v yn) = (s' : Int))) (L := List.range N) (j := v) (by omega) hno (by rw [hvr, hh, decide_eq_true (by omega)]; rfl)
            rw [hvr] at hf
            unfold nxR; rw [hf]; rfl
          intro b5
          refine appO (cxg _) (e := 3) rfl (i := 2) rfl ho (j := 3) (v : Int) rfl rfl rfl rfl (by omega) (fun o' ho' => ?_)
          refine nw (by omega) (by omega) ?_
          exact ⟨(s', (v : Int), o', P ++ [(v : Int)]), ⟨by dsimp only; omega, by dsimp only; omega, ho', hnr v hnx.symm⟩, Nat.lt_succ_self _, Ent.mk (fun _ _ h => h.pick [0, 1, 2] rfl rfl) (by dsimp only; rw [show (((s' + 1 : Nat) : Int) - 1 - 1) = (s' : Int) - 1 by omega]; rfl) rfl⟩
        · refine nw (by omega) (by omega) ?_
          exact ⟨v + 1, ⟨by omega, step (by rw [decide_eq_false (by omega), Bool.and_false])⟩, by omega, Ent.mk (fun _ _ h => h) rfl rfl⟩
      · refine hq' _ _ ?_
        refine nw (by omega) (by omega) ?_
        exact ⟨v + 1, ⟨by omega, step (by rw [hh]; rfl)⟩, by omega, Ent.mk (fun _ _ h => h) rfl rfl⟩
    · have hnx : nxR N E yn k s' = k := by
        rw [List.take_of_length_le (by omega)] at hno
        have : ((List.range N).find? fun v : Nat => hasF E k v && decide (dz (dst N E v yn) = (s' : Int))) = none := by
          rw [List.find?_eq_none]; intro t ht; rw [hno t ht]; exact Bool.false_ne_true
        unfold nxR; rw [this]; rfl
      intro b5
      refine appO (cxg _) (e := 3) rfl (i := 2) rfl ho (j := 3) k rfl rfl rfl rfl (by omega) (fun o' ho' => ?_)
      refine nw (by omega) (by omega) ?_
      exact ⟨(s', k, o', P ++ [k]), ⟨by dsimp only; omega, hk, ho', hnr k hnx.symm⟩, Nat.lt_succ_self _, Ent.mk (fun _ _ h => h.pick [0, 1, 2] rfl rfl) (by dsimp only; rw [show (((s' + 1 : Nat) : Int) - 1 - 1) = (s' : Int) - 1 by omega]; rfl) rfl⟩
  · obtain rfl : s = 0 := by omega
    refine ⟨[.hp o.h], ⟨o, rfl, rfl, ?_⟩, fun w' h => h.pick [0, 2] rfl rfl⟩
    rw [← hP]; simpa [wkR] using ho
end Go.Proofs.Ytdjhgcpmipglfaa
