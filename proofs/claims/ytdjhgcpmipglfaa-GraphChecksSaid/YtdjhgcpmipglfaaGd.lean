/- Contract of the graph's Make. Its premises are its own. -/
import Derived.Test.YtdjhgcpmipglfaaGc
namespace Go.Proofs.Ytdjhgcpmipglfaa
open Go Go.RowKit Go.Dw

def makeR (N : Int) (E : List (Int × Int)) : Int × List (Int × Int) × Int := if N < 0 ∨ N > 64 then (0, [], 2) else if E.any (outF N) then (0, [], 2) else (N, dd (sortF E), 0)
/-- a graph that is handed back, with an errno -/
def RetG (w : World) (r : Int × List (Int × Int) × Int) : Ending → World → Prop := Ret w fun v cs => ∃ o : Dw.Os, v = .tuple #[.agg #[.int .i64 r.1, o.v], .int .i64 r.2.2] ∧ cs = [.hp o.h] ∧ OwnO fE 32 2 o r.2.1
theorem make_spec {a : Option Addr} {n c : Nat} {E : List (Int × Int)} (N : Int) (w : World) (hL : Sl (encF fE) 2 (Hp.whole w) a n c E) (hl : E.length < 1000000) :
    CallsE Try.prog 16 #[.int .i64 N, .slice a n c] w (RetG w (makeR N E)) := by
  have hlen := hL.len
  refine enter (X := cx 42) (cxg _) (args := [.int .i64 N, .slice a n c]) [.cell 4 26, .tmp 5] Try.func16 rfl rfl rfl rfl rfl ?_
  intro b
  refine bsplitd (fun h1 => ?_) (fun h1 => ?_)
  · have : makeR N E = (0, [], 2) := by simp [makeR, h1]
    rw [this]
    exact ⟨[.hp Hp.emp], ⟨Os.nil, rfl, rfl, OwnO.nil _ _ _⟩, fun w' h => (h.pick [0] rfl rfl).emp⟩
  refine bsplitd (fun h2 => ?_) (fun h2 => ?_)
  · have : makeR N E = (0, [], 2) := by simp [makeR, h2]
    rw [this]
    exact ⟨[.hp Hp.emp], ⟨Os.nil, rfl, rfl, OwnO.nil _ _ _⟩, fun w' h => (h.pick [0] rfl rfl).emp⟩
  have hc1 : makeR N E = if E.any (outF N) then (0, [], 2) else (N, dd (sortF E), 0) := by simp only [makeR]; rw [if_neg (by omega)]
  refine NeedL.mk Nat (fun k => [(0, .v (.int .i64 N)), (1, .v (.slice a n c)), (4, .bx 1 0), (16, .v (.slice a n c)), (17, .v (.int .i64 n)), (18, .v (.int .i64 k))]) (fun _ => [.hp (Hp.whole w), .box b [.int .i64 0, .slice none 0 0] 26])
    (fun k => k ≤ n ∧ (E.take k).any (outF N) = false) (fun k => n - k) 0 ⟨Nat.zero_le _, rfl⟩ (Ent.mk (fun _ _ h => h) rfl rfl) ?_
  rintro k ⟨hk, ho⟩
  refine bsplitd (fun hlt => ?_) (fun hge => ?_)
  · have hlt' : k < E.length := by omega
    refine idx (cxg _) (e := 32) rfl hL k rfl hlt' (fun b1 o cs hcs hR hcell => ?_)
    subst hR
    refine ldn (cxg _) (i := 0) rfl hcell rfl ?_
    intro b2
    refine callV _ (fun w' _ => beyond_spec _ _ w') ?_
    refine bsplit (fun h4 => ?_) (fun h4 => ?_)
    · rw [hc1, any_hit hlt' (by simp [outF, h4])]
      exact ⟨[.hp Hp.emp], ⟨Os.nil, rfl, rfl, OwnO.nil _ _ _⟩, fun w' h => (h.pick [0] rfl rfl).emp⟩
    refine callV _ (fun w' _ => beyond_spec _ _ w') ?_
    refine bsplit (fun h5 => ?_) (fun h5 => ?_)
    · rw [hc1, any_hit hlt' (by simp [outF, h5])]
      exact ⟨[.hp Hp.emp], ⟨Os.nil, rfl, rfl, OwnO.nil _ _ _⟩, fun w' h => (h.pick [0] rfl rfl).emp⟩
    refine nw (by omega) (by omega) ?_
    exact ⟨k + 1, ⟨by omega, any_step hlt' ho (by simp [outF, h4, h5])⟩, by omega, Ent.mk (fun _ _ h => h.pick [0, 1] rfl rfl) rfl rfl⟩
  rw [List.take_of_length_le (by omega)] at ho
  rw [ho] at hc1
  refine call (fun w' hm => cloneEdges_spec w' (hL.mono (encF_mono _) (hm 0 _ rfl)) (by omega)) ?_
  rintro _ _ ⟨o1, rfl, rfl, ho1⟩
  refine callM (i := 2) rfl (fun w' hm => sort_spec w' (hm 2 _ rfl) ho1 hl) ?_
  rintro _ h2 _ ⟨rfl, rfl, ho2⟩
  refine callM (i := 2) rfl (fun w' hm => compact_spec (o := ⟨o1.a, o1.n, o1.c, h2⟩) w' (hm 2 _ rfl) ho2 (by rw [sortF_len]; exact hl)) ?_
  rintro _ _ _ ⟨o3, rfl, rfl, rfl, ho3⟩
  rw [hc1]
  exact ⟨[.hp o3.h], ⟨o3, rfl, rfl, ho3⟩, fun w' h => h.pick [0, 2] rfl rfl⟩
end Go.Proofs.Ytdjhgcpmipglfaa
