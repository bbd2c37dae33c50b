/- Contract of the graph's Back. Its premises are its own. -/
import Derived.Test.YtdjhgcpmipglfaaXD
namespace Go.Proofs.Ytdjhgcpmipglfaa
open Go Go.RowKit Go.Dw
theorem back1_spec {a : Option Addr} {n c b1 b2 : Nat} {E : List (Int × Int)} (N : Nat) (root : Int) (k : Nat) (w : World) (hL : Sl (encF fE) 2 (Hp.whole w) a n c E) (hG : Gr N E) (hr : 0 ≤ root ∧ root < N) (hk : k < N)
    (h1 : w.cell? ⟨b1, 0, none⟩ = some (.int .i64 N)) (h2 : w.cell? ⟨b1, 1, none⟩ = some (.slice a n c)) (h3 : w.cell? ⟨b2, 0, none⟩ = some (.int .i64 root)) :
    CallsE Try.prog 83 #[.int .i64 k, .pointer (some ⟨b1, 0, none⟩), .pointer (some ⟨b2, 0, none⟩)] w (RetV w (.int .i64 (second (pathF N E k root)))) := by
  refine enter (X := cx 16) (cxg _) (args := [.int .i64 k, .pointer (some ⟨b1, 0, none⟩), .pointer (some ⟨b2, 0, none⟩)]) [.tmp 4] Try.func83 rfl rfl rfl rfl rfl ?_
  refine ldn (cxg _) (i := 0) rfl (h := Hp.whole w) (cs := [.int .i64 N, .slice a n c]) (fun j v hj => ?_) rfl ?_
  · match j, hj with
    | 0, hj => cases hj; exact h1
    | 1, hj => cases hj; exact h2
  refine ld1 (cxg _) (i := 0) rfl (h := Hp.whole w) h3 rfl ?_
  refine call (fun w' hm => path_spec N k root w' (hL.mono (encF_mono _) (hm 0 _ rfl)) hG (by omega) hr) ?_
  rintro _ _ ⟨o, rfl, rfl, ho, _⟩
  have hs := OwnO.sl (f := fI) (fun _ => rfl) (by decide) ho
  have hlen := ho.len
  have hpl := pathF_len (E := E) (a := k) (b := root) hG.hN
  refine bsplitd (fun h => ?_) (fun h => ?_)
  · exact ⟨[], ⟨by unfold second; rw [if_pos (by omega)], rfl⟩, fun w' h => h.pick [0] rfl rfl⟩
  have hi : 1 < (pathF N E k root).length := by omega
  refine idx (cxg _) (e := 3) rfl hs 1 rfl hi (fun b o cs hcs hR hcell => ?_)
  subst hR
  refine ld1 (cxg _) (i := 1) rfl (hcell 0 _ rfl) rfl ?_
  refine ⟨[], ⟨?_, rfl⟩, fun w' h => h.pick [0] rfl rfl⟩
  unfold second
  rw [if_neg (by omega)]
  simp [List.getD, hi]
theorem Back_spec {a : Option Addr} {n c : Nat} {E : List (Int × Int)} (N root : Int) (w : World) (hL : Sl (encF fE) 2 (Hp.whole w) a n c E) :
    CallsE Try.prog 28 #[gv N a n c, .int .i64 root] w (RetI w (treeR N E root fun k => second (pathF N.toNat E k root)) (singleF N E [root])) := by
  refine enter (X := cx 12) (cxg _) (args := [.agg #[.int .i64 N, .slice a n c], .int .i64 root]) [.tmp 4, .tmp 5] Try.func28 rfl rfl rfl rfl rfl ?_
  intro b1 b2
  refine call (fun w' hm => tree_spec N root 83 (.pointer (some ⟨b1, 0, none⟩)) (.pointer (some ⟨b2, 0, none⟩)) (fun k => second (pathF N.toNat E k root)) w' (hL.mono (encF_mono _) (hm 0 _ rfl)) (fun h0 w2 h2 k hk hne => ?_)) ?_
  · obtain ⟨M, rfl, hG, hr0, hr1⟩ : ∃ M : Nat, N = M ∧ Gr M E ∧ 0 ≤ root ∧ root < M := by
      refine ready_one (k := root) ?_
      simp only [singleF] at h0
      split at h0
      · exact h0
      · rename_i h2; exact Decidable.not_not.1 h2
    exact back1_spec M root k w2 (hL.mono (encF_mono _) (Hp.le.trans (hm 0 _ rfl) h2.whole)) hG ⟨hr0, hr1⟩ (by omega)
      (h2.cell (Hp.le.cell (hm 1 _ rfl) (by simp [Ch.h, Hp.cell?, Hp.one]))) (h2.cell (Hp.le.cell (hm 1 _ rfl) (by simp [Ch.h, Hp.cell?, Hp.one]))) (h2.cell (Hp.le.cell (hm 2 _ rfl) (by simp [Ch.h, Hp.cell?, Hp.one])))
  rintro _ _ ⟨o, rfl, rfl, ho⟩
  exact ⟨[.hp o.h], ⟨o, rfl, rfl, ho⟩, fun w' h => h.pick [0, 3] rfl rfl⟩
end Go.Proofs.Ytdjhgcpmipglfaa
