/- Contracts of the laws' helpers pairs, plain, few, copied, same, fine, Example. Their premises are their own. -/
import Derived.Test.YtdjhgcpmipglfaaL2
import Derived.Test.YtdjhgcpmipglfaaGh
namespace Go.Proofs.Ytdjhgcpmipglfaa
open Go Go.RowKit Go.Dw
theorem pairs_spec {a : Option Addr} {n c : Nat} {E : List (Int × Int)} (w : World) (hL : Sl (encF fE) 2 (Hp.whole w) a n c E) (hn : n < 100000000000) :
    CallsE Try.prog 19 #[.slice a n c] w (Ret w fun v cs => ∃ o : Dw.Os, v = o.v ∧ cs = [.hp o.h] ∧ OwnO fE 85 2 o E) := by
  have hlen := hL.len
  refine enter (X := cx 22) (cxg _) (args := [.slice a n c]) [.tmp 2] Try.func19 rfl rfl rfl rfl rfl ?_
  refine NeedL.mk (Nat × Dw.Os) (fun g => [(3, .v g.2.v), (6, .v (.slice a n c)), (7, .v (.int .i64 n)), (8, .v (.int .i64 g.1))]) (fun g => [.hp (Hp.whole w), .hp g.2.h])
    (fun g => g.1 ≤ n ∧ OwnO fE 85 2 g.2 (E.take g.1)) (fun g => n - g.1) (0, Os.nil) ⟨Nat.zero_le _, OwnO.nil _ _ _⟩ (Ent.mk (fun _ _ h => h.emp) rfl rfl) ?_
  rintro ⟨k, o1⟩ ⟨hk, ho⟩
  dsimp only at *
  refine bsplitd (fun hlt => ?_) (fun hge => ?_)
  · have hlt' : k < E.length := by omega
    refine idx (cxg _) (e := 32) rfl hL k rfl hlt' (fun b1 o cs hcs hR hcell => ?_)
    subst hR
    refine ldn (cxg _) (i := 0) rfl hcell rfl ?_
    intro b4 b5
    refine appO (cxg _) (e := 85) rfl (i := 1) rfl ho (j := 3) E[k] rfl rfl rfl rfl (by rw [List.length_take]; omega) (fun o' ho' => ?_)
    refine nw (by omega) (by omega) ?_
    exact ⟨(k + 1, o'), ⟨by dsimp only; omega, by dsimp only; rw [List.take_succ_eq_append_getElem hlt']; exact ho'⟩, by dsimp only; omega, Ent.mk (fun _ _ h => h.pick [0, 1] rfl rfl) rfl rfl⟩
  · rw [List.take_of_length_le (by omega)] at ho
    exact ⟨[.hp o1.h], ⟨o1, rfl, rfl, ho⟩, fun w' h => h⟩
theorem plain_spec {a : Option Addr} {n c : Nat} {E : List (Int × Int)} (N : Int) (w : World) (hL : Sl (encF fE) 2 (Hp.whole w) a n c E) (hn : n < 100000000000) :
    CallsE Try.prog 26 #[gv N a n c] w (Ret w fun v cs => ∃ o : Dw.Os, v = gv N o.a o.n o.c ∧ cs = [.hp o.h] ∧ OwnO fE 85 2 o E) := by
  refine enter (X := cx 9) (cxg _) (args := [.agg #[.int .i64 N, .slice a n c]]) [.cell 2 35] Try.func26 rfl rfl rfl rfl rfl ?_
  intro b1 b2
  refine NeedD.by_order0 (cxg _) (.take 0 <| .take 1 <| .take 2 <| .take 3 <| .run 4 <| .take 5 <| .run 6 <| .done) (by kernel_rfl) (subL_blank _ 2) ?_
  refine call (fun w' hm => pairs_spec w' (hL.mono (encF_mono _) (hm 0 _ rfl)) hn) ?_
  rintro _ _ ⟨o, rfl, rfl, ho⟩
  refine ⟨(by repeat first | exact trivial | refine ⟨.inl rfl, ?_⟩ | refine ⟨.inr rfl, ?_⟩), ?_⟩
  exact ⟨[.hp o.h], ⟨o, rfl, rfl, ho⟩, fun w' h => h.pick [0, 3] rfl rfl⟩
theorem copied_spec {a : Option Addr} {n c : Nat} {E : List (Int × Int)} (N : Int) (w : World) (hL : Sl (encF fE) 2 (Hp.whole w) a n c E) (hn : n < 100000000) :
    CallsE Try.prog 24 #[gv N a n c] w (Ret w fun v cs => ∃ o : Dw.Os, v = gv N o.a o.n o.c ∧ cs = [.hp o.h] ∧ OwnO fE 32 2 o E) := by
  refine enter (X := cx 9) (cxg _) (args := [.agg #[.int .i64 N, .slice a n c]]) [.cell 2 26] Try.func24 rfl rfl rfl rfl rfl ?_
  intro b1 b2
  refine NeedD.by_order0 (cxg _) (.take 0 <| .take 1 <| .take 2 <| .take 3 <| .run 4 <| .take 5 <| .run 6 <| .done) (by kernel_rfl) (subL_blank _ 2) ?_
  refine call (fun w' hm => cloneEdges_spec w' (hL.mono (encF_mono _) (hm 0 _ rfl)) (by omega)) ?_
  rintro _ _ ⟨o, rfl, rfl, ho⟩
  refine ⟨(by repeat first | exact trivial | refine ⟨.inl rfl, ?_⟩ | refine ⟨.inr rfl, ?_⟩), ?_⟩
  exact ⟨[.hp o.h], ⟨o, rfl, rfl, ho⟩, fun w' h => h.pick [0, 3] rfl rfl⟩
def fewF (N : Int) (E : List (Int × Int)) : Bool := decide (E.length ≤ 24) && (decide (N ≤ 8) || decide (N > 64))
theorem few_spec {a : Option Addr} {n c : Nat} {E : List (Int × Int)} (N : Int) (w : World) (hL : Sl (encF fE) 2 (Hp.whole w) a n c E) :
    CallsE Try.prog 15 #[gv N a n c] w (RetV w (.bool (fewF N E))) := by
  have hlen := hL.len
  refine enter (X := cx 17) (cxg _) (args := [.agg #[.int .i64 N, .slice a n c]]) [.tmp 2] Try.func15 rfl rfl rfl rfl rfl ?_
  intro b1
  refine bsplitd (fun h1 => ?_) (fun h1 => ?_)
  · have e1 : fewF N E = (decide (N ≤ 8) || decide (N > 64)) := by unfold fewF; rw [decide_eq_true (by omega)]; rfl
    refine bsplitd (fun h2 => ?_) (fun h2 => ?_)
    · exact ⟨[], ⟨by rw [e1, decide_eq_true h2]; rfl, rfl⟩, fun w' h => h.pick [0] rfl rfl⟩
    · exact ⟨[], ⟨by rw [e1, decide_eq_false h2]; rfl, rfl⟩, fun w' h => h.pick [0] rfl rfl⟩
  · exact ⟨[], ⟨by unfold fewF; rw [decide_eq_false (by omega)]; rfl, rfl⟩, fun w' h => h.pick [0] rfl rfl⟩
theorem same_spec {a a' : Option Addr} {n c n' c' : Nat} {E E' : List (Int × Int)} (N N' : Int) (w : World) (hL : Sl (encF fE) 2 (Hp.whole w) a n c E) (hL' : Sl (encF fE) 2 (Hp.whole w) a' n' c' E') (hn : n < 100000000) :
    CallsE Try.prog 20 #[gv N a n c, gv N' a' n' c'] w (RetV w (.bool (decide (N = N') && decide (E = E')))) := by
  have hlen := hL.len
  refine enter (X := cx 18) (cxg _) (args := [.agg #[.int .i64 N, .slice a n c], .agg #[.int .i64 N', .slice a' n' c']]) [.tmp 4] Try.func20 rfl rfl rfl rfl rfl ?_
  intro b1 b2
  refine NeedD.by_order (cxg _) (.take 0 <| .take 1 <| .take 2 <| .take 3 <| .take 4 <| .take 5 <| .take 6 <| .take 7 <| .take 9 <| .take 10 <| .run 8 <| .run 11 <| .take 12 <| .take 13 <| .done) (by kernel_rfl) ?_
  refine bsplitd (fun h1 => ?_) (fun h1 => ?_)
  · refine call (fun w' hm => pairs_spec w' (hL.mono (encF_mono _) (hm 0 _ rfl)) (by omega)) ?_
    rintro _ _ ⟨o, rfl, rfl, ho⟩
    have hs := OwnO.sl (f := fE) (fun _ => rfl) (by decide) ho
    refine ⟨(by repeat first | exact trivial | refine ⟨.inl rfl, ?_⟩ | refine ⟨.inr rfl, ?_⟩), ?_⟩
    refine callV _ (fun w' hm => equalPairs_spec w' (hs.mono (encF_mono _) (hm 3 _ rfl)) (hL'.mono (encF_mono _) (hm 0 _ rfl)) (by have := ho.len; omega)) ?_
    refine ⟨(by repeat first | exact trivial | refine ⟨.inl rfl, ?_⟩ | refine ⟨.inr rfl, ?_⟩), ?_⟩
    exact ⟨[], ⟨by rw [decide_eq_true h1]; rfl, rfl⟩, fun w' h => h.pick [0] rfl rfl⟩
  · refine ⟨(by repeat first | exact trivial | refine ⟨.inl rfl, ?_⟩ | refine ⟨.inr rfl, ?_⟩), ?_⟩
    refine ⟨(by repeat first | exact trivial | refine ⟨.inl rfl, ?_⟩ | refine ⟨.inr rfl, ?_⟩), ?_⟩
    exact ⟨[], ⟨by rw [decide_eq_false h1]; rfl, rfl⟩, fun w' h => h.pick [0] rfl rfl⟩
def fineF (N : Int) (E : List (Int × Int)) : Bool := fewF N E && decide (checkF N E = 0)
theorem fine_spec {a : Option Addr} {n c : Nat} {E : List (Int × Int)} (N : Int) (w : World) (hL : Sl (encF fE) 2 (Hp.whole w) a n c E) :
    CallsE Try.prog 22 #[gv N a n c] w (RetV w (.bool (fineF N E))) := by
  have hlen := hL.len
  refine enter (X := cx 11) (cxg _) (args := [.agg #[.int .i64 N, .slice a n c]]) [.tmp 2] Try.func22 rfl rfl rfl rfl rfl ?_
  intro b1
  refine callV _ (fun w' hm => few_spec N w' (hL.mono (encF_mono _) (hm 0 _ rfl))) ?_
  refine bsplit (fun h1 => ?_) (fun h1 => ?_)
  · have hl : E.length ≤ 24 := by
      unfold fewF at h1
      simp only [Bool.and_eq_true, decide_eq_true_eq] at h1
      exact h1.1
    refine call (fun w' hm => plain_spec N w' (hL.mono (encF_mono _) (hm 0 _ rfl)) (by omega)) ?_
    rintro _ _ ⟨o, rfl, rfl, ho⟩
    have hs := OwnO.sl (f := fE) (fun _ => rfl) (by decide) ho
    refine callV _ (fun w' hm => RCheck_spec N w' (hs.mono (encF_mono _) (hm 2 _ rfl))) ?_
    exact ⟨[], ⟨by unfold fineF; rw [h1]; rfl, rfl⟩, fun w' h => h.pick [0] rfl rfl⟩
  · exact ⟨[], ⟨by unfold fineF; rw [h1]; rfl, rfl⟩, fun w' h => h.pick [0] rfl rfl⟩
def exE : List (Int × Int) := [(0, 1), (1, 0), (1, 2), (3, 2)]
theorem Example_spec (w : World) : CallsE Try.prog 69 #[] w (Ret w fun v cs => ∃ a n c h, v = gv 4 a n c ∧ cs = [.hp h] ∧ Sl (encF fE) 2 h a n c exE) := by
  refine enter (X := cx 7) (cxg _) (args := []) [.cell 0 26] Try.func69 rfl rfl rfl rfl rfl ?_
  intro b1 b2
  refine ⟨[.hp _], ⟨_, _, _, _, rfl, rfl, ?_⟩, fun w' h => Ok.same (s := [.hp (Hp.whole w), .box b2 (exE.flatMap fE) 32]) (i := 1) (c := .box b2 (exE.flatMap fE) 32) (d := .hp (Ch.box b2 (exE.flatMap fE) 32).h) rfl rfl (h.pick [0, 2] rfl rfl)⟩
  exact OwnO.sl (f := fE) (sz := 2) (fun _ => rfl) (by decide) (OwnO.box (f := fE) (sz := 2) (T := 32) (fun _ => rfl) exE rfl rfl (by decide))
theorem lists_spec {a a' : Option Addr} {n c n' c' : Nat} {L L' : List (List Int)} (w : World) (hL : Sl (encS (encF fI) 1) 1 (Hp.whole w) a n c L) (hL' : Sl (encS (encF fI) 1) 1 (Hp.whole w) a' n' c' L') (hn : n < 1000000000) (hb : ∀ x ∈ L, x.length < 1000000000) :
    CallsE Try.prog 49 #[.slice a n c, .slice a' n' c'] w (RetV w (.bool (decide (L = L')))) := by
  refine enter (X := cx 8) (cxg _) (args := [.slice a n c, .slice a' n' c']) [.tmp 4] Try.func49 rfl rfl rfl rfl rfl ?_
  refine callV _ (fun w' hm => equalRows_spec w' (hL.mono (encS_mono (encF_mono _) _) (hm 0 _ rfl)) (hL'.mono (encS_mono (encF_mono _) _) (hm 0 _ rfl)) hn hb) ?_
  exact ⟨[], ⟨rfl, rfl⟩, fun w' h => h.pick [0] rfl rfl⟩
end Go.Proofs.Ytdjhgcpmipglfaa
