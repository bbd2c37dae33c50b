/- Contracts of the reference's Path, Tree, Back. Their premises are their own. -/
import Derived.Test.YtdjhgcpmipglfaaYL6
import Derived.Test.YtdjhgcpmipglfaaYGm
namespace Go.Proofs.Ytdjhgcpmipglfaa
open Go Go.RowKit Go.Dw
def rpa (N : Nat) (E : List (Int × Int)) (x y : Int) : List Int := match dst N E x y with | none => [] | some s => wkR N E y s x
def rpe (N : Nat) (E : List (Int × Int)) (x y : Int) : Int := match dst N E x y with | none => 10 | some _ => 0
theorem RPath_spec {a : Option Addr} {n c : Nat} {E : List (Int × Int)} (N : Nat) (x y : Int) (w : World) (hL : Sl (encF fE) 2 (Hp.whole w) a n c E) (hG : Gr N E) (hx : 0 ≤ x ∧ x < N) (hy : 0 ≤ y ∧ y < N) :
    CallsE Try.prog 25 #[gv N a n c, .int .i64 x, .int .i64 y] w (RetI w (rpa N E x y) (rpe N E x y)) := by
  have hN := hG.hN
  obtain ⟨xn, rfl⟩ : ∃ v : Nat, x = v := ⟨_, (Int.toNat_of_nonneg hx.1).symm⟩
  obtain ⟨yn, rfl⟩ : ∃ v : Nat, y = v := ⟨_, (Int.toNat_of_nonneg hy.1).symm⟩
  have htl : (tabF N E).length = N := by simp [tabF]
  have hvt : xn < (tabF N E).length := by omega
  have hyt : yn < ((List.range N).map fun b : Nat => dz (dst N E xn b)).length := by simp; omega
  refine enter (X := cx 31) (cxg _) (args := [.agg #[.int .i64 N, .slice a n c], .int .i64 xn, .int .i64 yn]) [.tmp 6, .tmp 7] Try.func25 rfl rfl rfl rfl rfl ?_
  intro b1
  refine call (fun w' hm => Table_spec N w' (hL.mono (encF_mono _) (hm 0 _ rfl)) hG) ?_
  rintro _ _ ⟨a1, c1, h1, rfl, rfl, hT⟩
  refine hideQ (fun _ h => h _ _ ?_)
  refine hideQ (fun q' hq' => ?_)
  refine idx (cxg _) (e := 42) rfl hT xn rfl hvt (fun b o cs hcs hR hcell => ?_)
  obtain ⟨a3, n3, c3, rfl, hs3⟩ := hR
  rw [tab_get hvt] at hs3
  refine ld1 (cxg _) (i := 2) rfl (hcell 0 _ rfl) rfl ?_
  refine idx (cxg _) (e := 3) rfl hs3 yn rfl hyt (fun b o cs hcs hR hcell => ?_)
  subst hR
  refine ld1 (cxg _) (i := 2) rfl (hcell 0 _ rfl) rfl ?_
  rw [row_get hyt]
  refine hq' _ _ ?_
  refine bsplitd (fun hneg => ?_) (fun hpos => ?_)
  · have hd : dst N E xn yn = none := by
      cases h : dst N E xn yn with
      | none => rfl
      | some s => rw [h] at hneg; simp [dz] at hneg; omega
    refine ⟨[.hp Hp.emp], ⟨Os.nil, ?_, rfl, ?_⟩, fun w' h => (h.pick [0] rfl rfl).emp⟩
    · unfold rpe; rw [hd]; rfl
    · unfold rpa; rw [hd]; exact OwnO.nil _ _ _
  obtain ⟨s0, hs0⟩ : ∃ s, dst N E xn yn = some s := by
    cases h : dst N E xn yn with
    | none => rw [h] at hpos; simp [dz] at hpos
    | some s => exact ⟨s, rfl⟩
  have hsN := (dst_some hs0).1
  refine NeedD.by_order (cxg _) (.take 0 <| .take 1 <| .take 2 <| .take 3 <| .take 4 <| .take 5 <| .take 6 <| .take 7 <| .take 8 <| .take 9 <| .take 10 <| .run 11 <| .take 12 <| .take 13 <| .done) (by kernel_rfl) ?_
  refine idx (cxg _) (e := 42) rfl hT xn rfl hvt (fun b o cs hcs hR hcell => ?_)
  obtain ⟨a4, n4, c4, rfl, hs4⟩ := hR
  rw [tab_get hvt] at hs4
  refine ld1 (cxg _) (i := 2) rfl (hcell 0 _ rfl) rfl ?_
  refine idx (cxg _) (e := 3) rfl hs4 yn rfl hyt (fun b o cs hcs hR hcell => ?_)
  subst hR
  refine ld1 (cxg _) (i := 2) rfl (hcell 0 _ rfl) rfl ?_
  have hval : ((List.range N).map fun b : Nat => dz (dst N E xn b))[yn] = (s0 : Int) := by rw [row_get hyt, hs0]; rfl
  have hww := fun (w' : World) (h1' : (Hp.whole w).In w') (h2' : h1.In w') => walk_spec N xn yn s0 w' (hL.mono (encF_mono _) h1') (hT.mono (encS_mono (encF_mono _) _) h2') hG hx hy (by omega)
  rw [← hval] at hww
  refine call (fun w' hm => hww w' (hm 0 _ rfl) (hm 2 _ rfl)) ?_
  rintro _ _ ⟨o5, rfl, rfl, ho5⟩
  refine ⟨(by repeat first | exact trivial | refine ⟨.inl rfl, ?_⟩ | refine ⟨.inr rfl, ?_⟩), ?_⟩
  refine ⟨[.hp o5.h], ⟨o5, ?_, rfl, ?_⟩, fun w' h => h.pick [0, 3] rfl rfl⟩
  · unfold rpe; rw [hs0]
  · unfold rpa; rw [hs0]; exact ho5
def fillK (N k : Nat) (f : Nat → Int) : List Int := (List.range N).map fun i => if i < k then f i else 0
theorem fillK_zero (N : Nat) (f : Nat → Int) : fillK N 0 f = List.replicate N 0 := by
  apply List.ext_getElem
  · simp [fillK]
  · intro i h1 h2; simp [fillK]
theorem fillK_succ (N k : Nat) (f : Nat → Int) : fillK N (k + 1) f = (fillK N k f).set k (f k) := by
  unfold fillK
  rw [range_set]
  refine List.map_congr_left fun v _ => ?_
  by_cases h : v = k
  · subst h; simp
  · by_cases h2 : v < k
    · rw [if_pos (by omega), if_neg h, if_pos h2]
    · rw [if_neg (by omega), if_neg h, if_neg h2]
theorem fillK_end (N : Nat) (f : Nat → Int) : fillK N N f = (List.range N).map f := by
  unfold fillK
  exact List.map_congr_left fun v hv => if_pos (List.mem_range.1 hv)
theorem rpa_len {N : Nat} {E : List (Int × Int)} {x y : Int} (hN : N ≤ 64) : (rpa N E x y).length ≤ 65 := by
  unfold rpa
  cases h : dst N E x y with
  | none => simp
  | some s => simp only [wkR_len]; have := (dst_some h).1; omega
theorem RTree_spec {a : Option Addr} {n c : Nat} {E : List (Int × Int)} (N : Nat) (x : Int) (w : World) (hL : Sl (encF fE) 2 (Hp.whole w) a n c E) (hG : Gr N E) (hx : 0 ≤ x ∧ x < N) :
    CallsE Try.prog 30 #[gv N a n c, .int .i64 x] w (Ret w fun v cs => ∃ o : Dw.Os, v = o.v ∧ cs = [.hp o.h] ∧ OwnO fI 3 1 o ((List.range N).map fun v : Nat => lastBut (rpa N E x v))) := by
  have hN := hG.hN
  refine enter (X := cx 45) (cxg _) (args := [.agg #[.int .i64 N, .slice a n c], .int .i64 x]) [.tmp 4] Try.func30 rfl rfl rfl rfl rfl ?_
  intro b1
  refine mkO (f := fI) (cxg _) (e := 3) rfl N 0 rfl rfl rfl rfl (by omega) fun o ho' ho => ?_
  refine NeedL.mk (Nat × Dw.Os) (fun g => [(1, .v (.int .i64 x)), (2, .bx 1 0), (5, .v g.2.v), (6, .v (.int .i64 g.1))]) (fun g => [.hp (Hp.whole w), .box b1 [.int .i64 N, .slice a n c] 35, .hp g.2.h])
    (fun g => g.1 ≤ N ∧ g.2.n = N ∧ OwnO fI 3 1 g.2 (fillK N g.1 fun v : Nat => lastBut (rpa N E x v))) (fun g => N - g.1) (0, o) ⟨Nat.zero_le _, ho', by dsimp only; rw [fillK_zero]; exact ho⟩ (Ent.mk (fun _ _ h => h) rfl rfl) ?_
  clear ho' ho o
  rintro ⟨k, o⟩ ⟨hk, hon, ho⟩
  dsimp only at *
  have st := fillK_succ N k fun v : Nat => lastBut (rpa N E x v)
  refine bsplitd (fun hlt => ?_) (fun hge => ?_)
  · have hkl : k < (fillK N k fun v : Nat => lastBut (rpa N E x v)).length := by simp [fillK]; omega
    refine hideQ (fun q' hq' => ?_)
    refine oidx1 (cxg _) (e := 3) rfl rfl ho k rfl hkl fun b3 hb3 => ?_
    refine osto (g := fun x : Int => .int .i64 x) (fun _ => rfl) (cxg _) (i := 2) rfl hb3 ho hkl rfl rfl (-1) rfl rfl rfl fun o3 e1 e2 e3 ho3 => ?_
    refine hq' _ _ ?_
    have hov : o3.v = o.v := by simp only [Os.v, e1, e2, e3]
    refine call (fun w' hm => RPath_spec N x k w' (hL.mono (encF_mono _) (hm 0 _ rfl)) hG hx (by omega)) ?_
    rintro _ _ ⟨o4, rfl, rfl, ho4⟩
    have hs4 := OwnO.sl (f := fI) (fun _ => rfl) (by decide) ho4
    have h4 := ho4.len
    have h4l := rpa_len (E := E) (x := x) (y := (k : Int)) hN
    have none1 : (rpa N E x k).length ≤ 1 → ∃ g' : Nat × Dw.Os, (g'.1 ≤ N ∧ g'.2.n = N ∧ OwnO fI 3 1 g'.2 (fillK N g'.1 fun v : Nat => lastBut (rpa N E x v))) ∧ N - g'.1 < N - k ∧ g' = (k + 1, o3) := fun h => by
      refine ⟨(k + 1, o3), ⟨by dsimp only; omega, by dsimp only; omega, ?_⟩, by dsimp only; omega, rfl⟩
      dsimp only
      rw [st]
      have : lastBut (rpa N E x k) = -1 := if_pos (by omega)
      rw [this]; exact ho3
    refine hideQ (fun _ h => h _ _ ?_)
    refine hideQ (fun q' hq' => ?_)
    refine bsplitd (fun h8 => ?_) (fun h8 => ?_)
    · refine hq' _ _ ?_
      refine bsplitd (fun h1 => ?_) (fun h1 => ?_)
      · have hi : (rpa N E x k).length - 2 < (rpa N E x k).length := by omega
        refine hideQ (fun q' hq' => ?_)
        refine nw (by omega) (by omega) ?_
        refine idx (cxg _) (e := 3) rfl hs4 ((rpa N E x k).length - 2) (by omega) hi (fun b o9 cs hcs hR hcell => ?_)
        subst hR
        refine ld1 (cxg _) (i := 3) rfl (hcell 0 _ rfl) rfl ?_
        have hkl3 : k < ((fillK N k fun v : Nat => lastBut (rpa N E x v)).set k (-1)).length := by simpa using hkl
        rw [← hov]
        refine oidx1 (cxg _) (e := 3) rfl rfl ho3 k rfl hkl3 fun b3 hb3 => ?_
        refine osto (g := fun x : Int => .int .i64 x) (fun _ => rfl) (cxg _) (i := 2) rfl hb3 ho3 hkl3 rfl rfl ((rpa N E x k)[(rpa N E x k).length - 2]) rfl rfl rfl fun o5 f1 f2 f3 ho5 => ?_
        refine hq' _ _ ?_
        refine nw (by omega) (by omega) ?_
        refine ⟨(k + 1, o5), ⟨by dsimp only; omega, by dsimp only; omega, ?_⟩, by dsimp only; omega, Ent.mk (fun _ _ h => h.pick [0, 1, 2] rfl rfl) (by dsimp only [Os.v]; rw [f1, f2, f3]; rfl) rfl⟩
        dsimp only
        rw [st, ← set_set _ k (-1)]
        have : lastBut (rpa N E x k) = (rpa N E x k)[(rpa N E x k).length - 2] := by unfold lastBut; rw [if_neg (by omega)]; simp [List.getD, hi]
        rw [this]; exact ho5
      · refine nw (by omega) (by omega) ?_
        obtain ⟨g', q1, q2, rfl⟩ := none1 (by omega)
        exact ⟨_, q1, q2, Ent.mk (fun _ _ h => h.pick [0, 1, 2] rfl rfl) (by dsimp only [Os.v]; rw [e1, e2, e3]; rfl) rfl⟩
    · refine hq' _ _ ?_
      refine nw (by omega) (by omega) ?_
      have hz : (rpa N E x k).length ≤ 1 := by
        unfold rpe at h8; unfold rpa
        cases hd : dst N E x k with
        | none => simp
        | some s => rw [hd] at h8; exact absurd rfl h8
      obtain ⟨g', q1, q2, rfl⟩ := none1 hz
      exact ⟨_, q1, q2, Ent.mk (fun _ _ h => h.pick [0, 1, 2] rfl rfl) (by dsimp only [Os.v]; rw [e1, e2, e3]; rfl) rfl⟩
  · rw [show k = N by omega, fillK_end] at ho
    exact ⟨[.hp o.h], ⟨o, rfl, rfl, ho⟩, fun w' h => h.pick [0, 2] rfl rfl⟩
theorem RBack_spec {a : Option Addr} {n c : Nat} {E : List (Int × Int)} (N : Nat) (x : Int) (w : World) (hL : Sl (encF fE) 2 (Hp.whole w) a n c E) (hG : Gr N E) (hx : 0 ≤ x ∧ x < N) :
    CallsE Try.prog 31 #[gv N a n c, .int .i64 x] w (Ret w fun v cs => ∃ o : Dw.Os, v = o.v ∧ cs = [.hp o.h] ∧ OwnO fI 3 1 o ((List.range N).map fun v : Nat => second (rpa N E v x))) := by
  have hN := hG.hN
  refine enter (X := cx 42) (cxg _) (args := [.agg #[.int .i64 N, .slice a n c], .int .i64 x]) [.tmp 4] Try.func31 rfl rfl rfl rfl rfl ?_
  intro b1
  refine mkO (f := fI) (cxg _) (e := 3) rfl N 0 rfl rfl rfl rfl (by omega) fun o ho' ho => ?_
  refine NeedL.mk (Nat × Dw.Os) (fun g => [(1, .v (.int .i64 x)), (2, .bx 1 0), (5, .v g.2.v), (6, .v (.int .i64 g.1))]) (fun g => [.hp (Hp.whole w), .box b1 [.int .i64 N, .slice a n c] 35, .hp g.2.h])
    (fun g => g.1 ≤ N ∧ g.2.n = N ∧ OwnO fI 3 1 g.2 (fillK N g.1 fun v : Nat => second (rpa N E v x))) (fun g => N - g.1) (0, o) ⟨Nat.zero_le _, ho', by dsimp only; rw [fillK_zero]; exact ho⟩ (Ent.mk (fun _ _ h => h) rfl rfl) ?_
  clear ho' ho o
  rintro ⟨k, o⟩ ⟨hk, hon, ho⟩
  dsimp only at *
  have st := fillK_succ N k fun v : Nat => second (rpa N E v x)
  refine bsplitd (fun hlt => ?_) (fun hge => ?_)
  · have hkl : k < (fillK N k fun v : Nat => second (rpa N E v x)).length := by simp [fillK]; omega
    refine hideQ (fun q' hq' => ?_)
    refine oidx1 (cxg _) (e := 3) rfl rfl ho k rfl hkl fun b3 hb3 => ?_
    refine osto (g := fun x : Int => .int .i64 x) (fun _ => rfl) (cxg _) (i := 2) rfl hb3 ho hkl rfl rfl (-1) rfl rfl rfl fun o3 e1 e2 e3 ho3 => ?_
    refine hq' _ _ ?_
    have hov : o3.v = o.v := by simp only [Os.v, e1, e2, e3]
    refine call (fun w' hm => RPath_spec N k x w' (hL.mono (encF_mono _) (hm 0 _ rfl)) hG (by omega) hx) ?_
    rintro _ _ ⟨o4, rfl, rfl, ho4⟩
    have hs4 := OwnO.sl (f := fI) (fun _ => rfl) (by decide) ho4
    have h4 := ho4.len
    have h4l := rpa_len (E := E) (x := (k : Int)) (y := x) hN
    have none1 : (rpa N E k x).length ≤ 1 → ∃ g' : Nat × Dw.Os, (g'.1 ≤ N ∧ g'.2.n = N ∧ OwnO fI 3 1 g'.2 (fillK N g'.1 fun v : Nat => second (rpa N E v x))) ∧ N - g'.1 < N - k ∧ g' = (k + 1, o3) := fun h => by
      refine ⟨(k + 1, o3), ⟨by dsimp only; omega, by dsimp only; omega, ?_⟩, by dsimp only; omega, rfl⟩
      dsimp only
      rw [st]
      have : second (rpa N E k x) = -1 := if_pos (by omega)
      rw [this]; exact ho3
    refine hideQ (fun _ h => h _ _ ?_)
    refine hideQ (fun q' hq' => ?_)
    refine bsplitd (fun h8 => ?_) (fun h8 => ?_)
    · refine hq' _ _ ?_
      refine bsplitd (fun h1 => ?_) (fun h1 => ?_)
      · have hi : 1 < (rpa N E k x).length := by omega
        refine hideQ (fun q' hq' => ?_)
        refine idx (cxg _) (e := 3) rfl hs4 1 rfl hi (fun b o9 cs hcs hR hcell => ?_)
        subst hR
        refine ld1 (cxg _) (i := 3) rfl (hcell 0 _ rfl) rfl ?_
        have hkl3 : k < ((fillK N k fun v : Nat => second (rpa N E v x)).set k (-1)).length := by simpa using hkl
        rw [← hov]
        refine oidx1 (cxg _) (e := 3) rfl rfl ho3 k rfl hkl3 fun b3 hb3 => ?_
        refine osto (g := fun x : Int => .int .i64 x) (fun _ => rfl) (cxg _) (i := 2) rfl hb3 ho3 hkl3 rfl rfl ((rpa N E k x)[1]) rfl rfl rfl fun o5 f1 f2 f3 ho5 => ?_
        refine hq' _ _ ?_
        refine nw (by omega) (by omega) ?_
        refine ⟨(k + 1, o5), ⟨by dsimp only; omega, by dsimp only; omega, ?_⟩, by dsimp only; omega, Ent.mk (fun _ _ h => h.pick [0, 1, 2] rfl rfl) (by dsimp only [Os.v]; rw [f1, f2, f3]; rfl) rfl⟩
        dsimp only
        rw [st, ← set_set _ k (-1)]
        have : second (rpa N E k x) = (rpa N E k x)[1] := by unfold second; rw [if_neg (by omega)]; simp [List.getD, hi]
        rw [this]; exact ho5
      · refine nw (by omega) (by omega) ?_
        obtain ⟨g', q1, q2, rfl⟩ := none1 (by omega)
        exact ⟨_, q1, q2, Ent.mk (fun _ _ h => h.pick [0, 1, 2] rfl rfl) (by dsimp only [Os.v]; rw [e1, e2, e3]; rfl) rfl⟩
    · refine hq' _ _ ?_
      refine nw (by omega) (by omega) ?_
      have hz : (rpa N E k x).length ≤ 1 := by
        unfold rpe at h8; unfold rpa
        cases hd : dst N E k x with
        | none => simp
        | some s => rw [hd] at h8; exact absurd rfl h8
      obtain ⟨g', q1, q2, rfl⟩ := none1 hz
      exact ⟨_, q1, q2, Ent.mk (fun _ _ h => h.pick [0, 1, 2] rfl rfl) (by dsimp only [Os.v]; rw [e1, e2, e3]; rfl) rfl⟩
  · rw [show k = N by omega, fillK_end] at ho
    exact ⟨[.hp o.h], ⟨o, rfl, rfl, ho⟩, fun w' h => h.pick [0, 2] rfl rfl⟩
end Go.Proofs.Ytdjhgcpmipglfaa
