/- Contracts of the library's functions on slices at the types of this translation: comparing, searching. Each theorem's premises are its own. -/
import Derived.Test.YtdjhgcpmipglfaaG1
import Derived.Laws.StructEq
namespace Go.Proofs.Ytdjhgcpmipglfaa
open Go Go.RowKit Go.Dw

theorem bool_pair (a b c d : Int) : (if (!(a == c)) = true then false else if (!(b == d)) = true then false else true) = decide ((a, b) = (c, d)) := by
  by_cases h1 : a = c <;> by_cases h2 : b = d <;> simp [h1, h2]

theorem eqEdge (w : World) (a b c d : Int) : (Op.equalIn 10000 32 (.agg #[.int .i64 a, .int .i64 b]) (.agg #[.int .i64 c, .int .i64 d])).run Try.prog w = .ok (decide ((a, b) = (c, d))) w := by
  rw [show (10000 : Nat) = 9998 + 1 + 1 from rfl, run_equalIn_struct w _ _ _ _ (by kernel_rfl) (by kernel_rfl)]
  have e : (Try.prog.fieldsOf 32).toList = [⟨"From", 3, 0, false, "", "", 0⟩, ⟨"To", 3, 1, false, "", "", 8⟩] := by kernel_rfl
  have hi : ∀ x y : Int, (Op.equalIn (9998 + 1) 3 (.int .i64 x) (.int .i64 y)).run Try.prog w = .ok (x == y) w := fun x y => run_equalIn_int w 9998 3 .i64 .i64 x y Try.underlying3
  rw [e]
  simp only [Op.eqFields, ne_eq, String.reduceEq, not_false_eq_true, if_true, Sem.run_bind, part, Try.isAgg3, Result.andThen_ok]
  simp [hi]
  by_cases h1 : a = c <;> by_cases h2 : b = d <;> simp [h1, h2]

theorem qEdgeNe {s : List Ch} {xo yo : Operand} {a b c d : Int} {q : TV → Prop} (h : q (.v (.bool (decide ((a, b) ≠ (c, d)))))) :
    NeedQ Try.prog s (do eqGuard .neq 32 xo yo (.agg #[.int .i64 a, .int .i64 b]) (.agg #[.int .i64 c, .int .i64 d]); binOp .neq 32 (.agg #[.int .i64 a, .int .i64 b]) (.agg #[.int .i64 c, .int .i64 d])) q := by
  refine ⟨_, fun w _ => ?_, h⟩
  rw [Sem.run_bind, run_eqGuard_agg w _ _ _ _ _ _ Try.eqGuardType32]
  simp only [Result.andThen_ok]
  rw [run_neq_struct, eqEdge]
  by_cases h1 : (a, b) = (c, d) <;> simp [h1]
theorem qEdgeEq {s : List Ch} {xo yo : Operand} {a b c d : Int} {q : TV → Prop} (h : q (.v (.bool (decide ((a, b) = (c, d)))))) :
    NeedQ Try.prog s (do eqGuard .eql 32 xo yo (.agg #[.int .i64 a, .int .i64 b]) (.agg #[.int .i64 c, .int .i64 d]); binOp .eql 32 (.agg #[.int .i64 a, .int .i64 b]) (.agg #[.int .i64 c, .int .i64 d])) q := by
  refine ⟨_, fun w _ => ?_, h⟩
  rw [Sem.run_bind, run_eqGuard_agg w _ _ _ _ _ _ Try.eqGuardType32]
  simp only [Result.andThen_ok]
  rw [run_eql_struct, eqEdge]
  rfl
theorem eqPair (w : World) (a b c d' : Int) : (Op.equalIn 10000 85 (.agg #[.int .i64 a, .int .i64 b]) (.agg #[.int .i64 c, .int .i64 d'])).run Try.prog w = .ok (decide ((a, b) = (c, d'))) w := by
  have hu : (underlying 85).run Try.prog w = .ok (.array 2 3) w := by simp [underlying, Try.underlying85]
  have hi : ∀ x y : Int, (Op.equalIn 9999 3 (.int .i64 x) (.int .i64 y)).run Try.prog w = .ok (x == y) w := fun x y => run_equalIn_int w 9998 3 .i64 .i64 x y Try.underlying3
  generalize hd : (9999 : Nat) = d at hi
  rw [show (10000 : Nat) = d + 1 by omega]
  unfold Op.equalIn
  simp only [Sem.run_bind, hu, Result.andThen_ok]
  simp [Std.Legacy.Range.forIn_eq_forIn_range', part, Try.isAgg3, Try.sizeOf3, List.range', hi]
  by_cases h1 : a = c <;> by_cases h2 : b = d' <;> simp [h1, h2]
theorem qPairNe {s : List Ch} {xo yo : Operand} {a b c d : Int} {q : TV → Prop} (h : q (.v (.bool (decide ((a, b) ≠ (c, d)))))) :
    NeedQ Try.prog s (do eqGuard .neq 85 xo yo (.agg #[.int .i64 a, .int .i64 b]) (.agg #[.int .i64 c, .int .i64 d]); binOp .neq 85 (.agg #[.int .i64 a, .int .i64 b]) (.agg #[.int .i64 c, .int .i64 d])) q := by
  refine ⟨_, fun w _ => ?_, h⟩
  rw [Sem.run_bind, run_eqGuard_agg w _ _ _ _ _ _ Try.eqGuardType85]
  simp only [Result.andThen_ok]
  rw [run_neq_struct, eqPair]
  by_cases h1 : (a, b) = (c, d) <;> simp [h1]

theorem take_eq_of {α : Type} {L L' : List α} {k : Nat} (h1 : L.length ≤ k) (h2 : L'.length ≤ k) (h : L.take k = L'.take k) : L = L' := by
  rw [← List.take_of_length_le h1, ← List.take_of_length_le h2, h]
theorem take_eq_step {α : Type} {L L' : List α} {k : Nat} (h1 : k < L.length) (h2 : k < L'.length) (h : L.take k = L'.take k) (e : L[k] = L'[k]) : L.take (k + 1) = L'.take (k + 1) := by
  rw [List.take_succ_eq_append_getElem h1, List.take_succ_eq_append_getElem h2, h, e]

theorem equalEdges_spec {a a' : Option Addr} {n c n' c' : Nat} {L L' : List (Int × Int)} (w : World) (hL : Sl (encF fE) 2 (Hp.whole w) a n c L) (hL' : Sl (encF fE) 2 (Hp.whole w) a' n' c' L') (hn : n < 1000000000) :
    CallsE Try.prog 66 #[.slice a n c, .slice a' n' c'] w (RetV w (.bool (decide (L = L')))) := by
  have hlen := hL.len
  have hlen' := hL'.len
  refine enter (X := cx 26) (cxg _) (args := [.slice a n c, .slice a' n' c']) [.tmp 4] Try.func66 rfl rfl rfl rfl rfl ?_
  refine bsplitd (fun hne => ?_) (fun heq => ?_)
  · refine ⟨[], ⟨?_, rfl⟩, fun w' h => h⟩
    have : L ≠ L' := fun e => hne (by rw [hlen, hlen', e])
    simp [this]
  have hnn : n = n' := by omega
  refine NeedL.mk Nat (fun k => [(0, .v (.slice a n c)), (1, .v (.slice a' n' c')), (12, .v (.int .i64 n)), (13, .v (.int .i64 k))]) (fun _ => [.hp (Hp.whole w)])
    (fun k => k ≤ n ∧ L.take k = L'.take k) (fun k => n - k) 0 ⟨Nat.zero_le _, rfl⟩ (Ent.mk (fun _ _ h => h) rfl rfl) ?_
  rintro k ⟨hk, ho⟩
  refine bsplitd (fun hlt => ?_) (fun hge => ?_)
  · have hlt' : k < L.length := by omega
    have hlt2 : k < L'.length := by omega
    refine NeedD.by_order (cxg _) (.take 0 <| .take 1 <| .take 2 <| .take 3 <| .take 4 <| .take 5 <| .take 6 <| .take 7 <| .take 8 <| .done) (by kernel_rfl) ?_
    refine idx (cxg _) (e := 32) rfl hL k rfl hlt' (fun b o cs hcs hR hcell => ?_)
    subst hR
    refine ldn (cxg _) (i := 0) rfl hcell rfl ?_
    refine idx (cxg _) (e := 32) rfl hL' k rfl hlt2 (fun b o cs hcs hR hcell => ?_)
    subst hR
    refine ldn (cxg _) (i := 0) rfl hcell rfl ?_
    refine qEdgeNe ?_
    refine bsplitd (fun hb => ?_) (fun hb => ?_)
    · refine ⟨[], ⟨?_, rfl⟩, fun w' h => h⟩
      have : L ≠ L' := fun e => hb (by simp [e])
      simp [this]
    · refine nw (by omega) (by omega) ?_
      exact ⟨k + 1, ⟨by omega, take_eq_step hlt' hlt2 ho (Prod.ext_iff.2 (by simpa using hb))⟩, by omega, Ent.mk (fun _ _ h => h) rfl rfl⟩
  · refine ⟨[], ⟨?_, rfl⟩, fun w' h => h⟩
    simp [take_eq_of (show L.length ≤ k by omega) (show L'.length ≤ k by omega) ho]

theorem equalPairs_spec {a a' : Option Addr} {n c n' c' : Nat} {L L' : List (Int × Int)} (w : World) (hL : Sl (encF fE) 2 (Hp.whole w) a n c L) (hL' : Sl (encF fE) 2 (Hp.whole w) a' n' c' L') (hn : n < 1000000000) :
    CallsE Try.prog 76 #[.slice a n c, .slice a' n' c'] w (RetV w (.bool (decide (L = L')))) := by
  have hlen := hL.len
  have hlen' := hL'.len
  refine enter (X := cx 26) (cxg _) (args := [.slice a n c, .slice a' n' c']) [.tmp 4] Try.func76 rfl rfl rfl rfl rfl ?_
  refine bsplitd (fun hne => ?_) (fun heq => ?_)
  · refine ⟨[], ⟨?_, rfl⟩, fun w' h => h⟩
    have : L ≠ L' := fun e => hne (by rw [hlen, hlen', e])
    simp [this]
  have hnn : n = n' := by omega
  refine NeedL.mk Nat (fun k => [(0, .v (.slice a n c)), (1, .v (.slice a' n' c')), (12, .v (.int .i64 n)), (13, .v (.int .i64 k))]) (fun _ => [.hp (Hp.whole w)])
    (fun k => k ≤ n ∧ L.take k = L'.take k) (fun k => n - k) 0 ⟨Nat.zero_le _, rfl⟩ (Ent.mk (fun _ _ h => h) rfl rfl) ?_
  rintro k ⟨hk, ho⟩
  refine bsplitd (fun hlt => ?_) (fun hge => ?_)
  · have hlt' : k < L.length := by omega
    have hlt2 : k < L'.length := by omega
    refine NeedD.by_order (cxg _) (.take 0 <| .take 1 <| .take 2 <| .take 3 <| .take 4 <| .take 5 <| .take 6 <| .take 7 <| .take 8 <| .done) (by kernel_rfl) ?_
    refine idx (cxg _) (e := 85) rfl hL k rfl hlt' (fun b o cs hcs hR hcell => ?_)
    subst hR
    refine ldn (cxg _) (i := 0) rfl hcell rfl ?_
    refine idx (cxg _) (e := 85) rfl hL' k rfl hlt2 (fun b o cs hcs hR hcell => ?_)
    subst hR
    refine ldn (cxg _) (i := 0) rfl hcell rfl ?_
    refine qPairNe ?_
    refine bsplitd (fun hb => ?_) (fun hb => ?_)
    · refine ⟨[], ⟨?_, rfl⟩, fun w' h => h⟩
      have : L ≠ L' := fun e => hb (by simp [e])
      simp [this]
    · refine nw (by omega) (by omega) ?_
      exact ⟨k + 1, ⟨by omega, take_eq_step hlt' hlt2 ho (Prod.ext_iff.2 (by simpa using hb))⟩, by omega, Ent.mk (fun _ _ h => h) rfl rfl⟩
  · refine ⟨[], ⟨?_, rfl⟩, fun w' h => h⟩
    simp [take_eq_of (show L.length ≤ k by omega) (show L'.length ≤ k by omega) ho]

/-- the first place of x in L, or -1 -/
def idxOf {α : Type} [DecidableEq α] (x : α) : List α → Int
  | [] => -1
  | y :: r => if x = y then 0 else (if idxOf x r < 0 then -1 else idxOf x r + 1)
theorem idxOf_ge {α : Type} [DecidableEq α] (x : α) : ∀ L : List α, -1 ≤ idxOf x L
  | [] => by simp [idxOf]
  | y :: r => by have := idxOf_ge x r; simp only [idxOf]; split <;> (try split) <;> omega
theorem idxOf_mem {α : Type} [DecidableEq α] (x : α) : ∀ L : List α, 0 ≤ idxOf x L ↔ x ∈ L
  | [] => by simp [idxOf]
  | y :: r => by
    have ih := idxOf_mem x r
    have hg := idxOf_ge x r
    simp only [idxOf, List.mem_cons]
    split
    · rename_i h; simp [h]
    · rename_i h
      split
      · rename_i h2
        have : ¬ x ∈ r := fun hm => by have := ih.2 hm; omega
        simp [h, this]
      · rename_i h2
        have : x ∈ r := ih.1 (by omega)
        simp [h, this]; omega
theorem idxOf_skip {α : Type} [DecidableEq α] (x : α) : ∀ (L : List α) (k : Nat), (∀ y ∈ L.take k, x ≠ y) → k ≤ L.length → idxOf x L = if idxOf x (L.drop k) < 0 then -1 else idxOf x (L.drop k) + k
  | L, 0, _, _ => by
    have := idxOf_ge x L
    simp
    omega
  | [], k + 1, _, h => by simp at h
  | y :: r, k + 1, h, hk => by
    have h1 : x ≠ y := h y (by simp)
    have ih := idxOf_skip x r k (fun z hz => h z (by simp [hz])) (by simpa using hk)
    have hg := idxOf_ge x (r.drop k)
    simp only [idxOf, if_neg h1, List.drop_succ_cons]
    rw [ih]
    split <;> (try split) <;> omega
theorem idxOf_hit {α : Type} [DecidableEq α] (x : α) (L : List α) (k : Nat) (hk : k < L.length) (h : ∀ y ∈ L.take k, x ≠ y) (e : x = L[k]) : idxOf x L = k := by
  rw [idxOf_skip x L k h (Nat.le_of_lt hk), List.drop_eq_getElem_cons hk]
  simp [idxOf, e]
theorem idxOf_none {α : Type} [DecidableEq α] (x : α) (L : List α) (k : Nat) (hk : L.length ≤ k) (h : ∀ y ∈ L.take k, x ≠ y) : idxOf x L = -1 := by
  rw [List.take_of_length_le hk] at h
  have h1 := idxOf_ge x L
  have h2 := idxOf_mem x L
  have : ¬ 0 ≤ idxOf x L := fun h3 => h x (h2.1 h3) rfl
  omega
theorem take_all_step {α : Type} {P : α → Prop} {L : List α} {k : Nat} (hk : k < L.length) (h : ∀ y ∈ L.take k, P y) (e : P L[k]) : ∀ y ∈ L.take (k + 1), P y := by
  intro y hy
  rw [List.take_succ_eq_append_getElem hk] at hy
  rcases List.mem_append.1 hy with hy | hy
  · exact h y hy
  · have : y = L[k] := by simpa using hy
    rw [this]; exact e

theorem indexInts_spec {a : Option Addr} {n c : Nat} {L : List Int} (x : Int) (w : World) (hL : Sl (encF fI) 1 (Hp.whole w) a n c L) (hn : n < 1000000000) :
    CallsE Try.prog 60 #[.slice a n c, .int .i64 x] w (RetV w (.int .i64 (idxOf x L))) := by
  have hlen := hL.len
  refine enter (X := cx 19) (cxg _) (args := [.slice a n c, .int .i64 x]) [.tmp 4] Try.func60 rfl rfl rfl rfl rfl ?_
  refine NeedL.mk Nat (fun k => [(0, .v (.slice a n c)), (1, .v (.int .i64 x)), (7, .v (.int .i64 n)), (8, .v (.int .i64 k))]) (fun _ => [.hp (Hp.whole w)])
    (fun k => k ≤ n ∧ ∀ y ∈ L.take k, x ≠ y) (fun k => n - k) 0 ⟨Nat.zero_le _, by simp⟩ (Ent.mk (fun _ _ h => h) rfl rfl) ?_
  rintro k ⟨hk, ho⟩
  refine bsplitd (fun hlt => ?_) (fun hge => ?_)
  · have hlt' : k < L.length := by omega
    refine idx (cxg _) (e := 3) rfl hL k rfl hlt' (fun b o cs hcs hR hcell => ?_)
    subst hR
    refine ld1 (cxg _) (i := 0) rfl (hcell 0 _ rfl) rfl ?_
    refine bsplitd (fun hb => ?_) (fun hb => ?_)
    · exact ⟨[], ⟨by rw [idxOf_hit _ L k hlt' ho (by simpa using hb)], rfl⟩, fun w' h => h.pick [0] rfl rfl⟩
    · refine nw (by omega) (by omega) ?_
      exact ⟨k + 1, ⟨by omega, take_all_step hlt' ho (by simpa using hb)⟩, by omega, Ent.mk (fun _ _ h => h) rfl rfl⟩
  · exact ⟨[], ⟨by rw [idxOf_none _ L k (by omega) ho], rfl⟩, fun w' h => h.pick [0] rfl rfl⟩

theorem indexEdges_spec {a : Option Addr} {n c : Nat} {L : List (Int × Int)} (x y : Int) (w : World) (hL : Sl (encF fE) 2 (Hp.whole w) a n c L) (hn : n < 1000000000) :
    CallsE Try.prog 100 #[.slice a n c, .agg #[.int .i64 x, .int .i64 y]] w (RetV w (.int .i64 (idxOf (x, y) L))) := by
  have hlen := hL.len
  refine enter (X := cx 19) (cxg _) (args := [.slice a n c, .agg #[.int .i64 x, .int .i64 y]]) [.tmp 4] Try.func100 rfl rfl rfl rfl rfl ?_
  intro b0
  refine NeedL.mk Nat (fun k => [(0, .v (.slice a n c)), (3, .bx 1 0), (7, .v (.int .i64 n)), (8, .v (.int .i64 k))]) (fun _ => [.hp (Hp.whole w), .box b0 [.int .i64 x, .int .i64 y] 32])
    (fun k => k ≤ n ∧ ∀ z ∈ L.take k, (x, y) ≠ z) (fun k => n - k) 0 ⟨Nat.zero_le _, by simp⟩ (Ent.mk (fun _ _ h => h) rfl rfl) ?_
  rintro k ⟨hk, ho⟩
  refine bsplitd (fun hlt => ?_) (fun hge => ?_)
  · have hlt' : k < L.length := by omega
    refine NeedD.by_order (cxg _) (.take 0 <| .take 1 <| .take 2 <| .take 3 <| .take 4 <| .take 5 <| .done) (by kernel_rfl) ?_
    refine idx (cxg _) (e := 32) rfl hL k rfl hlt' (fun b o cs hcs hR hcell => ?_)
    subst hR
    refine ldn (cxg _) (i := 0) rfl hcell rfl ?_
    refine qEdgeEq ?_
    refine bsplitd (fun hb => ?_) (fun hb => ?_)
    · exact ⟨[], ⟨by rw [idxOf_hit _ L k hlt' ho hb], rfl⟩, fun w' h => h.pick [0] rfl rfl⟩
    · refine nw (by omega) (by omega) ?_
      exact ⟨k + 1, ⟨by omega, take_all_step hlt' ho hb⟩, by omega, Ent.mk (fun _ _ h => h) rfl rfl⟩
  · exact ⟨[], ⟨by rw [idxOf_none _ L k (by omega) ho], rfl⟩, fun w' h => h.pick [0] rfl rfl⟩

theorem containsInts_spec {a : Option Addr} {n c : Nat} {L : List Int} (x : Int) (w : World) (hL : Sl (encF fI) 1 (Hp.whole w) a n c L) (hn : n < 1000000000) :
    CallsE Try.prog 44 #[.slice a n c, .int .i64 x] w (RetV w (.bool (decide (x ∈ L)))) := by
  refine enter (X := cx 9) (cxg _) (args := [.slice a n c, .int .i64 x]) [.tmp 4] Try.func44 rfl rfl rfl rfl rfl ?_
  refine call (fun w' hm => indexInts_spec x w' (hL.mono (encF_mono _) (hm 0 _ rfl)) hn) ?_
  rintro _ _ ⟨rfl, rfl⟩
  refine ⟨[], ⟨?_, rfl⟩, fun w' h => h⟩
  have := idxOf_mem x L
  simp only [Value.bool.injEq, decide_eq_decide]
  exact this

theorem containsEdges_spec {a : Option Addr} {n c : Nat} {L : List (Int × Int)} (x y : Int) (w : World) (hL : Sl (encF fE) 2 (Hp.whole w) a n c L) (hn : n < 1000000000) :
    CallsE Try.prog 61 #[.slice a n c, .agg #[.int .i64 x, .int .i64 y]] w (RetV w (.bool (decide ((x, y) ∈ L)))) := by
  refine enter (X := cx 9) (cxg _) (args := [.slice a n c, .agg #[.int .i64 x, .int .i64 y]]) [.tmp 4] Try.func61 rfl rfl rfl rfl rfl ?_
  intro b
  refine call (fun w' hm => indexEdges_spec x y w' (hL.mono (encF_mono _) (hm 0 _ rfl)) hn) ?_
  rintro _ _ ⟨rfl, rfl⟩
  refine ⟨[], ⟨?_, rfl⟩, fun w' h => h.pick [0] rfl rfl⟩
  have := idxOf_mem (x, y) L
  simp only [Value.bool.injEq, decide_eq_decide]
  exact this
end Go.Proofs.Ytdjhgcpmipglfaa
