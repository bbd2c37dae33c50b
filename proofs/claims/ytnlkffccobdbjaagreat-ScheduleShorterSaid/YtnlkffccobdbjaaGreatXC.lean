/- Parts of one proof, joined: G1, G2, G3, G4, G5, G6, G7, G8, G9, Ga. No condition of its own. -/
import Derived.Test.YtnlkffccobdbjaaGreatXB
import Derived.Laws.StructEq
import Derived.WalkSpells
namespace Go.Proofs.YtnlkffccobdbjaaGreat
open Go Go.RowKit Go.Dw

/-- a call that hands back v, and makes nothing that is kept -/
abbrev RetV (w : World) (v : Value) : Ending → World → Prop := Ret w fun u cs => u = v ∧ cs = []
theorem callV {P : Program} {s : List Ch} {f : Nat} {args : List Value} {q : TV → List Ch → Prop} (v : Value)
    (h : ∀ w, Mem s w → CallsE P f args.toArray w (RetV w v)) (k : q (.v v) s) : NeedF P s f args q := by
  refine call h ?_
  rintro _ _ ⟨rfl, rfl⟩
  rwa [List.append_nil]

theorem isNaN_spec (x : Int) (w : World) : CallsE Tryz.prog 162 #[.int .i64 x] w (RetV w (.bool false)) := by
  refine enter (X := cx 6) (cxg _) (args := [.int .i64 x]) [.tmp 2] Tryz.func162 rfl rfl rfl rfl rfl ?_
  refine ⟨[], ⟨?_, rfl⟩, fun w' h => h⟩
  simp

theorem less_spec (x y : Int) (w : World) : CallsE Tryz.prog 139 #[.int .i64 x, .int .i64 y] w (RetV w (.bool (decide (x < y)))) := by
  refine enter (X := cx 17) (cxg _) (args := [.int .i64 x, .int .i64 y]) [.tmp 4] Tryz.func139 rfl rfl rfl rfl rfl ?_
  refine call (fun w _ => isNaN_spec x w) ?_
  rintro _ _ ⟨rfl, rfl⟩
  exact ⟨[], ⟨rfl, rfl⟩, fun w' h => h⟩

def cmpI (x y : Int) : Int := if x < y then -1 else if x > y then 1 else 0
theorem compare_spec (x y : Int) (w : World) : CallsE Tryz.prog 174 #[.int .i64 x, .int .i64 y] w (RetV w (.int .i64 (cmpI x y))) := by
  refine enter (X := cx 20) (cxg _) (args := [.int .i64 x, .int .i64 y]) [.tmp 4] Tryz.func174 rfl rfl rfl rfl rfl ?_
  refine call (fun w _ => isNaN_spec x w) ?_
  rintro _ _ ⟨rfl, rfl⟩
  refine call (fun w _ => isNaN_spec y w) ?_
  rintro _ _ ⟨rfl, rfl⟩
  refine bsplitd (fun h => ?_) (fun h => ?_)
  · exact ⟨[], ⟨by simp [cmpI, h], rfl⟩, fun w' h => h⟩
  · refine bsplitd (fun h2 => ?_) (fun h2 => ?_)
    · exact ⟨[], ⟨by simp [cmpI, h, h2], rfl⟩, fun w' h => h⟩
    · exact ⟨[], ⟨by simp [cmpI, h, h2], rfl⟩, fun w' h => h⟩

def orI : List Int → Int
  | [] => 0
  | x :: r => if x = 0 then orI r else x
theorem orI_drop (L : List Int) : ∀ k (h : k < L.length), L[k] = 0 → orI (L.drop k) = orI (L.drop (k + 1)) := by
  intro k h h0
  rw [List.drop_eq_getElem_cons h]
  simp [orI, h0]

theorem or_spec {a : Option Addr} {n c : Nat} {L : List Int} (w : World) (hL : Sl (encF fI) 1 (Hp.whole w) a n c L) (hn : n < 1000000000) :
    CallsE Tryz.prog 173 #[.slice a n c] w (RetV w (.int .i64 (orI L))) := by
  have hlen := hL.len
  refine enter (X := cx 18) (cxg _) (args := [.slice a n c]) [.tmp 2] Tryz.func173 rfl rfl rfl rfl rfl ?_
  refine NeedL.mk Nat (fun k => [(3, .v (.int .i64 0)), (6, .v (.slice a n c)), (7, .v (.int .i64 n)), (8, .v (.int .i64 k))]) (fun _ => [.hp (Hp.whole w)])
    (fun k => k ≤ n ∧ orI L = orI (L.drop k)) (fun k => n - k) 0 ⟨Nat.zero_le _, rfl⟩ (Ent.mk (fun _ _ h => h) rfl rfl) ?_
  rintro k ⟨hk, ho⟩
  refine bsplitd (fun hlt => ?_) (fun hge => ?_)
  · have hlt' : k < L.length := by omega
    refine idx (cxg _) (e := 3) rfl hL k rfl hlt' (fun b o cs hcs hR hcell => ?_)
    subst hR
    refine ld1 (cxg _) (i := 0) rfl (hcell 0 _ rfl) rfl ?_
    refine bsplitd (fun hb => ?_) (fun hb => ?_)
    · refine ⟨[], ⟨?_, rfl⟩, fun w' h => h⟩
      rw [ho, List.drop_eq_getElem_cons hlt']
      simp [orI, hb]
    · refine nw (by omega) (by omega) ?_
      exact ⟨k + 1, ⟨by omega, by rw [ho, orI_drop L k hlt' (by simpa using hb)]⟩, by omega, Ent.mk (fun _ _ h => h) rfl rfl⟩
  · refine ⟨[], ⟨?_, rfl⟩, fun w' h => h⟩
    rw [ho, List.drop_of_length_le (by omega)]
    rfl

theorem equalInts_spec {a a' : Option Addr} {n c n' c' : Nat} {L L' : List Int} (w : World) (hL : Sl (encF fI) 1 (Hp.whole w) a n c L) (hL' : Sl (encF fI) 1 (Hp.whole w) a' n' c' L') (hn : n < 1000000000) :
    CallsE Tryz.prog 29 #[.slice a n c, .slice a' n' c'] w (RetV w (.bool (decide (L = L')))) := by
  have hlen := hL.len
  have hlen' := hL'.len
  refine enter (X := cx 26) (cxg _) (args := [.slice a n c, .slice a' n' c']) [.tmp 4] Tryz.func29 rfl rfl rfl rfl rfl ?_
  refine bsplitd (fun hne => ?_) (fun heq => ?_)
  · refine ⟨[], ⟨?_, rfl⟩, fun w' h => h⟩
    have : L ≠ L' := fun e => hne (by rw [hlen, hlen', e])
    simp [this]
  have hnn : n = n' := by omega
  refine NeedL.mk Nat (fun k => [(0, .v (.slice a n c)), (1, .v (.slice a' n' c')), (12, .v (.int .i64 n)), (13, .v (.int .i64 k))]) (fun _ => [.hp (Hp.whole w)])
    (fun k => k ≤ n ∧ L.take k = L'.take k) (fun k => n - k) 0 ⟨Nat.zero_le _, rfl⟩ (Ent.mk (fun _ _ h => h) rfl rfl) ?_
  rintro k ⟨hk, ho⟩
  refine bsplitd (fun hlt => ?_) (fun hge => ?_)
  · have hlt' : k < L.length := by omega
    have hlt2 : k < L'.length := by omega
    refine NeedD.by_order (cxg _) (.take 0 <| .take 1 <| .take 2 <| .take 3 <| .take 4 <| .take 5 <| .take 6 <| .take 7 <| .take 8 <| .done) (by kernel_rfl) ?_
    refine idx (cxg _) (e := 3) rfl hL k rfl hlt' (fun b o cs hcs hR hcell => ?_)
    subst hR
    refine ld1 (cxg _) (i := 0) rfl (hcell 0 _ rfl) rfl ?_
    refine idx (cxg _) (e := 3) rfl hL' k rfl hlt2 (fun b o cs hcs hR hcell => ?_)
    subst hR
    refine ld1 (cxg _) (i := 0) rfl (hcell 0 _ rfl) rfl ?_
    refine bsplitd (fun hb => ?_) (fun hb => ?_)
    · refine ⟨[], ⟨?_, rfl⟩, fun w' h => h⟩
      have : L ≠ L' := fun e => hb (by simp [e])
      simp [this]
    · refine nw (by omega) (by omega) ?_
      refine ⟨k + 1, ⟨by omega, ?_⟩, by omega, Ent.mk (fun _ _ h => h) rfl rfl⟩
      rw [List.take_succ_eq_append_getElem hlt', List.take_succ_eq_append_getElem hlt2, ho, show L[k] = L'[k] by simpa using hb]
  · refine ⟨[], ⟨?_, rfl⟩, fun w' h => h⟩
    have : L = L' := by
      rw [← List.take_of_length_le (show L.length ≤ k by omega), ← List.take_of_length_le (show L'.length ≤ k by omega), ho]
    simp [this]
end Go.Proofs.YtnlkffccobdbjaaGreat
namespace Go.Proofs.YtnlkffccobdbjaaGreat
open Go Go.RowKit Go.Dw

theorem bool_pair (a b c d : Int) : (if (!(a == c)) = true then false else if (!(b == d)) = true then false else true) = decide ((a, b) = (c, d)) := by
  by_cases h1 : a = c <;> by_cases h2 : b = d <;> simp [h1, h2]

theorem eqEdge (w : World) (a b c d : Int) : (Op.equalIn 10000 164 (.agg #[.int .i64 a, .int .i64 b]) (.agg #[.int .i64 c, .int .i64 d])).run Tryz.prog w = .ok (decide ((a, b) = (c, d))) w := by
  rw [show (10000 : Nat) = 9998 + 1 + 1 from rfl, run_equalIn_struct w _ _ _ _ (by kernel_rfl) (by kernel_rfl)]
  have e : (Tryz.prog.fieldsOf 164).toList = [⟨"From", 3, 0, false, "", "", 0⟩, ⟨"To", 3, 1, false, "", "", 8⟩] := by kernel_rfl
  have hi : ∀ x y : Int, (Op.equalIn (9998 + 1) 3 (.int .i64 x) (.int .i64 y)).run Tryz.prog w = .ok (x == y) w := fun x y => run_equalIn_int w 9998 3 .i64 .i64 x y Tryz.underlying3
  rw [e]
  simp only [Op.eqFields, ne_eq, String.reduceEq, not_false_eq_true, if_true, Sem.run_bind, part, Tryz.isAgg3, Result.andThen_ok]
  simp [hi]
  by_cases h1 : a = c <;> by_cases h2 : b = d <;> simp [h1, h2]

theorem qEdgeNe {s : List Ch} {xo yo : Operand} {a b c d : Int} {q : TV → Prop} (h : q (.v (.bool (decide ((a, b) ≠ (c, d)))))) :
    NeedQ Tryz.prog s (do eqGuard .neq 164 xo yo (.agg #[.int .i64 a, .int .i64 b]) (.agg #[.int .i64 c, .int .i64 d]); binOp .neq 164 (.agg #[.int .i64 a, .int .i64 b]) (.agg #[.int .i64 c, .int .i64 d])) q := by
  refine ⟨_, fun w _ => ?_, h⟩
  rw [Sem.run_bind, run_eqGuard_agg w _ _ _ _ _ _ Tryz.eqGuardType164]
  simp only [Result.andThen_ok]
  rw [run_neq_struct, eqEdge]
  by_cases h1 : (a, b) = (c, d) <;> simp [h1]
theorem qEdgeEq {s : List Ch} {xo yo : Operand} {a b c d : Int} {q : TV → Prop} (h : q (.v (.bool (decide ((a, b) = (c, d)))))) :
    NeedQ Tryz.prog s (do eqGuard .eql 164 xo yo (.agg #[.int .i64 a, .int .i64 b]) (.agg #[.int .i64 c, .int .i64 d]); binOp .eql 164 (.agg #[.int .i64 a, .int .i64 b]) (.agg #[.int .i64 c, .int .i64 d])) q := by
  refine ⟨_, fun w _ => ?_, h⟩
  rw [Sem.run_bind, run_eqGuard_agg w _ _ _ _ _ _ Tryz.eqGuardType164]
  simp only [Result.andThen_ok]
  rw [run_eql_struct, eqEdge]
  rfl
theorem take_eq_of {α : Type} {L L' : List α} {k : Nat} (h1 : L.length ≤ k) (h2 : L'.length ≤ k) (h : L.take k = L'.take k) : L = L' := by
  rw [← List.take_of_length_le h1, ← List.take_of_length_le h2, h]
theorem take_eq_step {α : Type} {L L' : List α} {k : Nat} (h1 : k < L.length) (h2 : k < L'.length) (h : L.take k = L'.take k) (e : L[k] = L'[k]) : L.take (k + 1) = L'.take (k + 1) := by
  rw [List.take_succ_eq_append_getElem h1, List.take_succ_eq_append_getElem h2, h, e]

/-- the first place of x in L, or -1 -/
def idxOf {α : Type} [DecidableEq α] (x : α) : List α → Int
  | [] => -1
  | y :: r => if x = y then 0 else (if idxOf x r < 0 then -1 else idxOf x r + 1)
theorem idxOf_ge {α : Type} [DecidableEq α] (x : α) : ∀ L : List α, -1 ≤ idxOf x L
  | [] => by simp [idxOf]
  | y :: r => by have := idxOf_ge x r; simp only [idxOf]; split <;> (try split) <;> omega
theorem idxOf_mem {α : Type} [DecidableEq α] (x : α) : ∀ L : List α, 0 ≤ idxOf x L ↔ x ∈ L
  | [] => by simp [idxOf]
  | y :: r => by
    have ih := idxOf_mem x r
    have hg := idxOf_ge x r
    simp only [idxOf, List.mem_cons]
    split
    · rename_i h; simp [h]
    · rename_i h
      split
      · rename_i h2
        have : ¬ x ∈ r := fun hm => by have := ih.2 hm; omega
        simp [h, this]
      · rename_i h2
        have : x ∈ r := ih.1 (by omega)
        simp [h, this]; omega
theorem idxOf_skip {α : Type} [DecidableEq α] (x : α) : ∀ (L : List α) (k : Nat), (∀ y ∈ L.take k, x ≠ y) → k ≤ L.length → idxOf x L = if idxOf x (L.drop k) < 0 then -1 else idxOf x (L.drop k) + k
  | L, 0, _, _ => by
    have := idxOf_ge x L
    simp
    omega
  | [], k + 1, _, h => by simp at h
  | y :: r, k + 1, h, hk => by
    have h1 : x ≠ y := h y (by simp)
    have ih := idxOf_skip x r k (fun z hz => h z (by simp [hz])) (by simpa using hk)
    have hg := idxOf_ge x (r.drop k)
    simp only [idxOf, if_neg h1, List.drop_succ_cons]
    rw [ih]
    split <;> (try split) <;> omega
theorem idxOf_hit {α : Type} [DecidableEq α] (x : α) (L : List α) (k : Nat) (hk : k < L.length) (h : ∀ y ∈ L.take k, x ≠ y) (e : x = L[k]) : idxOf x L = k := by
  rw [idxOf_skip x L k h (Nat.le_of_lt hk), List.drop_eq_getElem_cons hk]
  simp [idxOf, e]
theorem idxOf_none {α : Type} [DecidableEq α] (x : α) (L : List α) (k : Nat) (hk : L.length ≤ k) (h : ∀ y ∈ L.take k, x ≠ y) : idxOf x L = -1 := by
  rw [List.take_of_length_le hk] at h
  have h1 := idxOf_ge x L
  have h2 := idxOf_mem x L
  have : ¬ 0 ≤ idxOf x L := fun h3 => h x (h2.1 h3) rfl
  omega
theorem take_all_step {α : Type} {P : α → Prop} {L : List α} {k : Nat} (hk : k < L.length) (h : ∀ y ∈ L.take k, P y) (e : P L[k]) : ∀ y ∈ L.take (k + 1), P y := by
  intro y hy
  rw [List.take_succ_eq_append_getElem hk] at hy
  rcases List.mem_append.1 hy with hy | hy
  · exact h y hy
  · have : y = L[k] := by simpa using hy
    rw [this]; exact e

theorem indexInts_spec {a : Option Addr} {n c : Nat} {L : List Int} (x : Int) (w : World) (hL : Sl (encF fI) 1 (Hp.whole w) a n c L) (hn : n < 1000000000) :
    CallsE Tryz.prog 122 #[.slice a n c, .int .i64 x] w (RetV w (.int .i64 (idxOf x L))) := by
  have hlen := hL.len
  refine enter (X := cx 19) (cxg _) (args := [.slice a n c, .int .i64 x]) [.tmp 4] Tryz.func122 rfl rfl rfl rfl rfl ?_
  refine NeedL.mk Nat (fun k => [(0, .v (.slice a n c)), (1, .v (.int .i64 x)), (7, .v (.int .i64 n)), (8, .v (.int .i64 k))]) (fun _ => [.hp (Hp.whole w)])
    (fun k => k ≤ n ∧ ∀ y ∈ L.take k, x ≠ y) (fun k => n - k) 0 ⟨Nat.zero_le _, by simp⟩ (Ent.mk (fun _ _ h => h) rfl rfl) ?_
  rintro k ⟨hk, ho⟩
  refine bsplitd (fun hlt => ?_) (fun hge => ?_)
  · have hlt' : k < L.length := by omega
    refine idx (cxg _) (e := 3) rfl hL k rfl hlt' (fun b o cs hcs hR hcell => ?_)
    subst hR
    refine ld1 (cxg _) (i := 0) rfl (hcell 0 _ rfl) rfl ?_
    refine bsplitd (fun hb => ?_) (fun hb => ?_)
    · exact ⟨[], ⟨by rw [idxOf_hit _ L k hlt' ho (by simpa using hb)], rfl⟩, fun w' h => h.pick [0] rfl rfl⟩
    · refine nw (by omega) (by omega) ?_
      exact ⟨k + 1, ⟨by omega, take_all_step hlt' ho (by simpa using hb)⟩, by omega, Ent.mk (fun _ _ h => h) rfl rfl⟩
  · exact ⟨[], ⟨by rw [idxOf_none _ L k (by omega) ho], rfl⟩, fun w' h => h.pick [0] rfl rfl⟩

theorem containsInts_spec {a : Option Addr} {n c : Nat} {L : List Int} (x : Int) (w : World) (hL : Sl (encF fI) 1 (Hp.whole w) a n c L) (hn : n < 1000000000) :
    CallsE Tryz.prog 95 #[.slice a n c, .int .i64 x] w (RetV w (.bool (decide (x ∈ L)))) := by
  refine enter (X := cx 9) (cxg _) (args := [.slice a n c, .int .i64 x]) [.tmp 4] Tryz.func95 rfl rfl rfl rfl rfl ?_
  refine call (fun w' hm => indexInts_spec x w' (hL.mono (encF_mono _) (hm 0 _ rfl)) hn) ?_
  rintro _ _ ⟨rfl, rfl⟩
  refine ⟨[], ⟨?_, rfl⟩, fun w' h => h⟩
  have := idxOf_mem x L
  simp only [Value.bool.injEq, decide_eq_decide]
  exact this

end Go.Proofs.YtnlkffccobdbjaaGreat
namespace Go.Proofs.YtnlkffccobdbjaaGreat
open Go Go.RowKit Go.Dw

theorem qNilEq {T : Nat} {s : List Ch} {xo yo : Operand} {a : Option Addr} {n c : Nat} {q : TV → Prop} (hT : (elsz (cx 0) T).isSome = true) (h : q (.v (.bool a.isNone))) :
    NeedQ Tryz.prog s (do eqGuard .eql T xo yo (.slice a n c) (.slice none 0 0); binOp .eql T (.slice a n c) (.slice none 0 0)) q := by
  obtain ⟨⟨e, te⟩, hx⟩ := Option.isSome_iff_exists.1 hT
  have hu := (elsz_spec (cxg 0) hx).1
  refine ⟨_, fun w _ => ?_, h⟩
  have hun : (underlying T).run Tryz.prog w = .ok (.slice e) w := by simp [underlying, show Tryz.prog.underlying T = _ from hu]
  have hg : (eqGuard .eql T xo yo (.slice a n c) (.slice none 0 0)).run Tryz.prog w = .ok () w := by simp [eqGuard]
  rw [Sem.run_bind, hg]
  simp only [Result.andThen_ok, binOp, Sem.run_bind]
  have : (Op.equal T (.slice a n c) (.slice none 0 0)).run Tryz.prog w = .ok a.isNone w := by
    unfold Op.equal Op.maxDepth
    rw [show (10000 : Nat) = 9999 + 1 from rfl]
    unfold Op.equalIn
    simp only [Sem.run_bind, hun, Result.andThen_ok]
    cases a <;> simp
  rw [this]
  rfl

/-- what Clone hands back: a new slice -/
theorem cloneEdges_spec {a : Option Addr} {n c : Nat} {L : List (Int × Int)} (w : World) (hL : Sl (encF fE) 2 (Hp.whole w) a n c L) (hn : n < 1000000000) :
    CallsE Tryz.prog 166 #[.slice a n c] w (Ret w fun v cs => ∃ o, v = o.v ∧ cs = [.hp o.h] ∧ OwnO fE 164 2 o L) := by
  have hlen := hL.len
  refine enter (X := cx 8) (cxg _) (args := [.slice a n c]) [.tmp 2] Tryz.func166 rfl rfl rfl rfl rfl ?_
  refine qNilEq rfl ?_
  refine bsplit (fun h => ?_) (fun h => ?_)
  · refine ⟨[.hp Hp.emp], ⟨Os.nil, rfl, rfl, ?_⟩, fun w' h => h.emp⟩
    have : L = [] := by
      cases a with
      | none => cases L with
        | nil => rfl
        | cons x r => obtain ⟨b, off, cs, h1, _⟩ := hL.cells 0 (by simp); cases h1
      | some _ => simp at h
    rw [this]; exact OwnO.nil _ _ _
  · intro b
    refine app0 (cxg _) (e := 164) rfl (fun _ => rfl) (fun _ => rfl) (k := 0) rfl hL rfl (by omega) fun o' ho' => ?_
    exact ⟨[.hp o'.h], ⟨o', rfl, rfl, ho'⟩, fun w' h => h.pick [0, 2] rfl rfl⟩
theorem cloneInts_spec {a : Option Addr} {n c : Nat} {L : List Int} (w : World) (hL : Sl (encF fI) 1 (Hp.whole w) a n c L) (hn : n < 1000000000) :
    CallsE Tryz.prog 25 #[.slice a n c] w (Ret w fun v cs => ∃ o, v = o.v ∧ cs = [.hp o.h] ∧ OwnO fI 3 1 o L) := by
  have hlen := hL.len
  refine enter (X := cx 8) (cxg _) (args := [.slice a n c]) [.tmp 2] Tryz.func25 rfl rfl rfl rfl rfl ?_
  refine qNilEq rfl ?_
  refine bsplit (fun h => ?_) (fun h => ?_)
  · refine ⟨[.hp Hp.emp], ⟨Os.nil, rfl, rfl, ?_⟩, fun w' h => h.emp⟩
    have : L = [] := by
      cases a with
      | none => cases L with
        | nil => rfl
        | cons x r => obtain ⟨b, off, cs, h1, _⟩ := hL.cells 0 (by simp); cases h1
      | some _ => simp at h
    rw [this]; exact OwnO.nil _ _ _
  · intro b
    refine app0 (cxg _) (e := 3) rfl (fun _ => rfl) (fun _ => rfl) (k := 0) rfl hL rfl (by omega) fun o' ho' => ?_
    exact ⟨[.hp o'.h], ⟨o', rfl, rfl, ho'⟩, fun w' h => h.pick [0, 2] rfl rfl⟩

/-- lexicographic order of lists: -1, 0, 1 -/
def cmpL : List Int → List Int → Int
  | [], [] => 0
  | [], _ :: _ => -1
  | _ :: _, [] => 1
  | x :: r, y :: t => if cmpI x y ≠ 0 then cmpI x y else cmpL r t
theorem cmpL_skip : ∀ (L L' : List Int) (k : Nat), L.take k = L'.take k → k ≤ L.length → k ≤ L'.length → cmpL L L' = cmpL (L.drop k) (L'.drop k)
  | _, _, 0, _, _, _ => by simp
  | [], _, k + 1, _, h, _ => by simp at h
  | _ :: _, [], k + 1, _, _, h => by simp at h
  | x :: r, y :: t, k + 1, h, h1, h2 => by
    simp only [List.take_succ_cons, List.cons.injEq] at h
    obtain ⟨rfl, h⟩ := h
    have := cmpL_skip r t k h (by simpa using h1) (by simpa using h2)
    simp [cmpL, cmpI, this]
theorem cmpI_zero {x y : Int} (h : cmpI x y = 0) : x = y := by
  unfold cmpI at h
  split at h
  · omega
  · split at h
    · omega
    · omega

/-- the first place where p holds, or -1 -/
def idxBy {α : Type} (p : α → Bool) : List α → Int
  | [] => -1
  | y :: r => if p y then 0 else (if idxBy p r < 0 then -1 else idxBy p r + 1)
theorem idxBy_ge {α : Type} (p : α → Bool) : ∀ L : List α, -1 ≤ idxBy p L
  | [] => by simp [idxBy]
  | y :: r => by have := idxBy_ge p r; simp only [idxBy]; split <;> (try split) <;> omega
theorem idxBy_any {α : Type} (p : α → Bool) : ∀ L : List α, decide (0 ≤ idxBy p L) = L.any p
  | [] => by simp [idxBy]
  | y :: r => by
    have ih := idxBy_any p r
    have hg := idxBy_ge p r
    simp only [idxBy, List.any_cons, ← ih]
    split
    · rename_i h; simp [h]
    · rename_i h
      simp only [h, Bool.false_or]
      split
      · rename_i h2; simp; omega
      · rename_i h2; simp; omega
theorem idxBy_skip {α : Type} (p : α → Bool) : ∀ (L : List α) (k : Nat), (∀ y ∈ L.take k, p y = false) → k ≤ L.length → idxBy p L = if idxBy p (L.drop k) < 0 then -1 else idxBy p (L.drop k) + k
  | L, 0, _, _ => by
    have := idxBy_ge p L
    simp
    omega
  | [], k + 1, _, h => by simp at h
  | y :: r, k + 1, h, hk => by
    have h1 : p y = false := h y (by simp)
    have ih := idxBy_skip p r k (fun z hz => h z (by simp [hz])) (by simpa using hk)
    have hg := idxBy_ge p (r.drop k)
    simp only [idxBy, h1, List.drop_succ_cons]
    rw [ih]
    simp
    split <;> (try split) <;> omega
theorem idxBy_hit {α : Type} (p : α → Bool) (L : List α) (k : Nat) (hk : k < L.length) (h : ∀ y ∈ L.take k, p y = false) (e : p L[k] = true) : idxBy p L = k := by
  rw [idxBy_skip p L k h (Nat.le_of_lt hk), List.drop_eq_getElem_cons hk]
  simp [idxBy, e]
theorem idxBy_none {α : Type} (p : α → Bool) (L : List α) (k : Nat) (hk : L.length ≤ k) (h : ∀ y ∈ L.take k, p y = false) : idxBy p L = -1 := by
  rw [idxBy_skip p L L.length (by rw [List.take_of_length_le (Nat.le_refl _)]; rwa [List.take_of_length_le hk] at h) (Nat.le_refl _)]
  simp [idxBy]

theorem indexFuncInts_spec {a : Option Addr} {n c : Nat} {L : List Int} (g : Nat) (cv : Value) (p : Int → Bool) (w : World) (hL : Sl (encF fI) 1 (Hp.whole w) a n c L) (hn : n < 1000000000)
    (hp : ∀ w', (Hp.whole w).In w' → ∀ x ∈ L, CallsE Tryz.prog g #[.int .i64 x, cv] w' (RetV w' (.bool (p x)))) :
    CallsE Tryz.prog 76 #[.slice a n c, .func (.func g) #[] #[cv]] w (RetV w (.int .i64 (idxBy p L))) := by
  have hlen := hL.len
  refine enter (X := cx 19) (cxg _) (args := [.slice a n c, .func (.func g) #[] #[cv]]) [.tmp 4] Tryz.func76 rfl rfl rfl rfl rfl ?_
  refine NeedL.mk Nat (fun k => [(0, .v (.slice a n c)), (1, .v (.func (.func g) #[] #[cv])), (7, .v (.int .i64 n)), (8, .v (.int .i64 k))]) (fun _ => [.hp (Hp.whole w)])
    (fun k => k ≤ n ∧ ∀ y ∈ L.take k, p y = false) (fun k => n - k) 0 ⟨Nat.zero_le _, by simp⟩ (Ent.mk (fun _ _ h => h) rfl rfl) ?_
  rintro k ⟨hk, ho⟩
  refine bsplitd (fun hlt => ?_) (fun hge => ?_)
  · have hlt' : k < L.length := by omega
    refine idx (cxg _) (e := 3) rfl hL k rfl hlt' (fun b o cs hcs hR hcell => ?_)
    subst hR
    refine ld1 (cxg _) (i := 0) rfl (hcell 0 _ rfl) rfl ?_
    refine callV (.bool (p L[k])) (fun w' hm => hp w' (hm 0 _ rfl) L[k] (List.getElem_mem hlt')) ?_
    refine bsplit (fun hb => ?_) (fun hb => ?_)
    · exact ⟨[], ⟨by rw [idxBy_hit p L k hlt' ho hb], rfl⟩, fun w' h => h.pick [0] rfl rfl⟩
    · refine nw (by omega) (by omega) ?_
      exact ⟨k + 1, ⟨by omega, take_all_step hlt' ho hb⟩, by omega, Ent.mk (fun _ _ h => h) rfl rfl⟩
  · exact ⟨[], ⟨by rw [idxBy_none p L k (by omega) ho], rfl⟩, fun w' h => h.pick [0] rfl rfl⟩

theorem containsFuncInts_spec {a : Option Addr} {n c : Nat} {L : List Int} (g : Nat) (cv : Value) (p : Int → Bool) (w : World) (hL : Sl (encF fI) 1 (Hp.whole w) a n c L) (hn : n < 1000000000)
    (hp : ∀ w', (Hp.whole w).In w' → ∀ x ∈ L, CallsE Tryz.prog g #[.int .i64 x, cv] w' (RetV w' (.bool (p x)))) :
    CallsE Tryz.prog 60 #[.slice a n c, .func (.func g) #[] #[cv]] w (RetV w (.bool (L.any p))) := by
  refine enter (X := cx 9) (cxg _) (args := [.slice a n c, .func (.func g) #[] #[cv]]) [.tmp 4] Tryz.func60 rfl rfl rfl rfl rfl ?_
  refine call (fun w' hm => indexFuncInts_spec g cv p w' (hL.mono (encF_mono _) (hm 0 _ rfl)) hn (fun w2 h2 => hp w2 (h2.le (hm 0 _ rfl)))) ?_
  rintro _ _ ⟨rfl, rfl⟩
  exact ⟨[], ⟨by rw [← idxBy_any], rfl⟩, fun w' h => h⟩
end Go.Proofs.YtnlkffccobdbjaaGreat
namespace Go.Proofs.YtnlkffccobdbjaaGreat
open Go Go.RowKit Go.Dw

theorem flatLen {α : Type} {f : α → List Value} {sz : Nat} (hf : ∀ x, (f x).length = sz) : ∀ L : List α, (L.flatMap f).length = L.length * sz
  | [] => by simp
  | x :: r => by rw [List.flatMap_cons, List.length_append, hf, flatLen hf r, List.length_cons, Nat.succ_mul]; omega
/-- a new variable's block, read as a slice -/
theorem Sl.box {α : Type} {f : α → List Value} {sz : Nat} (hf : ∀ x, (f x).length = sz) (h0 : 0 < sz) {b T : Nat} {cs : List Value} {w : World} (hh : (Ch.box b cs T).h.In w) (L : List α) {n : Nat} (hL : cs = L.flatMap f) (hn : n = L.length) (hl : L.length < 1000000) :
    Sl (encF f) sz (Hp.whole w) (some ⟨b, 0, none⟩) n n L := by
  subst hL hn
  have hl := flatLen hf L
  refine Sl.mono (encF_mono _) hh (OwnL.sl (T := T) hf h0 ⟨rfl, hl, .inr ⟨b, _, rfl, Hp.one_self _ _, Nat.le_refl _, by unfold maxLen; omega, by simpa using hl, ?_⟩⟩)
  exact List.take_of_length_le (Nat.le_of_eq hl)

def beyondF (n k : Int) : Bool := decide (k < 0) || decide (k ≥ n)
theorem beyond_spec (n k : Int) (w : World) : CallsE Tryz.prog 164 #[.int .i64 n, .int .i64 k] w (RetV w (.bool (beyondF n k))) := by
  refine enter (X := cx 12) (cxg _) (args := [.int .i64 n, .int .i64 k]) [.tmp 4] Tryz.func164 rfl rfl rfl rfl rfl ?_
  refine bsplitd (fun h => ?_) (fun h => ?_)
  · exact ⟨[], ⟨by simp [beyondF, h], rfl⟩, fun w' h => h⟩
  · exact ⟨[], ⟨by simp [beyondF, h], rfl⟩, fun w' h => h⟩
def orderF (a b : Int × Int) : Int := if cmpI a.1 b.1 ≠ 0 then cmpI a.1 b.1 else cmpI a.2 b.2
theorem order_spec (a b : Int × Int) (w : World) : CallsE Tryz.prog 165 #[.agg #[.int .i64 a.1, .int .i64 a.2], .agg #[.int .i64 b.1, .int .i64 b.2]] w (RetV w (.int .i64 (orderF a b))) := by
  refine enter (X := cx 17) (cxg _) (args := [.agg #[.int .i64 a.1, .int .i64 a.2], .agg #[.int .i64 b.1, .int .i64 b.2]]) [.tmp 4] Tryz.func165 rfl rfl rfl rfl rfl ?_
  intro b1 b2
  refine NeedD.by_order (cxg _) (.take 0 <| .take 1 <| .take 2 <| .take 3 <| .take 5 <| .take 6 <| .take 7 <| .take 8 <| .run 4 <| .run 9 <| .run 10 <| .run 11 <| .take 12 <| .done) (by kernel_rfl) ?_
  refine callV _ (fun w' hm => compare_spec _ _ w') ?_
  refine ⟨subL_refl _, ?_⟩
  refine callV _ (fun w' hm => compare_spec _ _ w') ?_
  refine ⟨subL_refl _, ?_⟩
  intro b3
  refine ⟨subL_app _ _, ?_⟩
  refine callV _ (fun w' hm => or_spec w' (Sl.box (f := fI) (fun _ => rfl) (by decide) (hm 3 _ rfl) [cmpI a.1 b.1, cmpI a.2 b.2] rfl rfl (by simp)) (by decide)) ?_
  refine ⟨subL_app _ _, ?_⟩
  refine ⟨[], ⟨?_, rfl⟩, fun w' h => h.pick [0] rfl rfl⟩
  by_cases h : cmpI a.1 b.1 = 0 <;> by_cases h' : cmpI a.2 b.2 = 0 <;> simp [orI, orderF, h, h']

def sortedF (E : List (Int × Int)) : Bool := (List.range (E.length - 1)).all fun i => decide (orderF (E.getD i (0, 0)) (E.getD (i + 1) (0, 0)) < 0)
def outF (N : Int) (e : Int × Int) : Bool := beyondF N e.1 || beyondF N e.2
def checkF (N : Int) (E : List (Int × Int)) : Int :=
  if N < 0 ∨ N > 64 then 2 else if (E.length : Int) > N * N then 6 else if E.any (outF N) then 2 else if sortedF E then 0 else 8
def gv (N : Int) (a : Option Addr) (n c : Nat) : Value := .agg #[.int .i64 N, .slice a n c]
theorem any_step {α : Type} {p : α → Bool} {L : List α} {k : Nat} (hk : k < L.length) (h : (L.take k).any p = false) (e : p L[k] = false) : (L.take (k + 1)).any p = false := by
  rw [List.take_succ_eq_append_getElem hk, List.any_append, h, List.any_cons, e]
  rfl
theorem any_hit {α : Type} {p : α → Bool} {L : List α} {k : Nat} (hk : k < L.length) (e : p L[k] = true) : L.any p = true := List.any_eq_true.2 ⟨_, List.getElem_mem hk, e⟩
theorem check_spec {a : Option Addr} {n c : Nat} {E : List (Int × Int)} (N : Int) (w : World) (hL : Sl (encF fE) 2 (Hp.whole w) a n c E) :
    CallsE Tryz.prog 147 #[gv N a n c] w (RetV w (.int .i64 (checkF N E))) := by
  have hlen := hL.len
  refine enter (X := cx 65) (cxg _) (args := [.agg #[.int .i64 N, .slice a n c]]) [.tmp 2] Tryz.func147 rfl rfl rfl rfl rfl ?_
  intro b
  refine bsplitd (fun h1 => ?_) (fun h1 => ?_)
  · exact ⟨[], ⟨by simp [checkF, h1], rfl⟩, fun w' h => h.pick [0] rfl rfl⟩
  refine bsplitd (fun h2 => ?_) (fun h2 => ?_)
  · exact ⟨[], ⟨by simp [checkF, h1, h2], rfl⟩, fun w' h => h.pick [0] rfl rfl⟩
  have hN : 0 ≤ N * N ∧ N * N ≤ 64 * 64 := ⟨Int.mul_nonneg (by omega) (by omega), Int.mul_le_mul (by omega) (by omega) (by omega) (by omega)⟩
  refine nw (by omega) (by omega) ?_
  refine bsplitd (fun h3 => ?_) (fun h3 => ?_)
  · exact ⟨[], ⟨by simp only [checkF]; rw [if_neg (by omega), if_pos (by omega)], rfl⟩, fun w' h => h.pick [0] rfl rfl⟩
  have hc1 : checkF N E = if E.any (outF N) then 2 else if sortedF E then 0 else 8 := by simp only [checkF]; rw [if_neg (by omega), if_neg (by omega)]
  refine NeedL.mk Nat (fun k => [(1, .bx 1 0), (26, .v (.slice a n c)), (27, .v (.int .i64 n)), (28, .v (.int .i64 k))]) (fun _ => [.hp (Hp.whole w), .box b [.int .i64 N, .slice a n c] 134])
    (fun k => k ≤ n ∧ (E.take k).any (outF N) = false) (fun k => n - k) 0 ⟨Nat.zero_le _, rfl⟩ (Ent.mk (fun _ _ h => h) rfl rfl) ?_
  rintro k ⟨hk, ho⟩
  refine bsplitd (fun hlt => ?_) (fun hge => ?_)
  · have hlt' : k < E.length := by omega
    refine idx (cxg _) (e := 164) rfl hL k rfl hlt' (fun b o cs hcs hR hcell => ?_)
    subst hR
    refine ldn (cxg _) (i := 0) rfl hcell rfl ?_
    intro b2
    refine callV _ (fun w' _ => beyond_spec _ _ w') ?_
    refine bsplit (fun h4 => ?_) (fun h4 => ?_)
    · exact ⟨[], ⟨by rw [hc1, any_hit hlt' (by simp [outF, h4])]; rfl, rfl⟩, fun w' h => h.pick [0] rfl rfl⟩
    refine callV _ (fun w' _ => beyond_spec _ _ w') ?_
    refine bsplit (fun h5 => ?_) (fun h5 => ?_)
    · exact ⟨[], ⟨by rw [hc1, any_hit hlt' (by simp [outF, h5])]; rfl, rfl⟩, fun w' h => h.pick [0] rfl rfl⟩
    refine nw (by omega) (by omega) ?_
    exact ⟨k + 1, ⟨by omega, any_step hlt' ho (by simp [outF, h4, h5])⟩, by omega, Ent.mk (fun _ _ h => h.pick [0, 1] rfl rfl) rfl rfl⟩
  rw [List.take_of_length_le (by omega)] at ho
  rw [ho] at hc1
  refine NeedL.mk Nat (fun k => [(1, .bx 1 0), (5, .v (.int .i64 (k + 1 : Nat)))]) (fun _ => [.hp (Hp.whole w), .box b [.int .i64 N, .slice a n c] 134])
    (fun k => k ≤ n ∧ ((List.range k).all fun i => decide (orderF (E.getD i (0, 0)) (E.getD (i + 1) (0, 0)) < 0)) = true) (fun k => n - k) 0 ⟨Nat.zero_le _, rfl⟩ (Ent.mk (fun _ _ h => h) rfl rfl) ?_
  rintro k ⟨hk, ho⟩
  refine bsplitd (fun hlt => ?_) (fun hge => ?_)
  · have hlt' : k + 1 < E.length := by omega
    refine NeedD.by_order (cxg _) (.take 0 <| .take 1 <| .take 2 <| .take 3 <| .take 4 <| .take 5 <| .take 6 <| .take 7 <| .take 8 <| .take 9 <| .take 10 <| .run 11 <| .take 12 <| .done) (by kernel_rfl) ?_
    refine nw (by omega) (by omega) ?_
    refine idx (cxg _) (e := 164) rfl hL k (by omega) (by omega) (fun b o cs hcs hR hcell => ?_)
    subst hR
    refine ldn (cxg _) (i := 0) rfl hcell rfl ?_
    refine idx (cxg _) (e := 164) rfl hL (k + 1) rfl (by omega) (fun b o cs hcs hR hcell => ?_)
    subst hR
    refine ldn (cxg _) (i := 0) rfl hcell rfl ?_
    refine callV _ (fun w' _ => order_spec _ _ w') ?_
    refine ⟨subL_refl _, ?_⟩
    have hg1 : E.getD k (0, 0) = E[k] := by simp [List.getD, show k < E.length by omega]
    have hg2 : E.getD (k + 1) (0, 0) = E[k + 1] := by simp [List.getD, show k + 1 < E.length by omega]
    refine bsplitd (fun h6 => ?_) (fun h6 => ?_)
    · refine ⟨[], ⟨?_, rfl⟩, fun w' h => h.pick [0] rfl rfl⟩
      have : sortedF E = false := by
        rw [sortedF, List.all_eq_false]
        exact ⟨k, by simp; omega, by rw [hg1, hg2]; simp; omega⟩
      rw [hc1, this]; rfl
    · refine nw (by omega) (by omega) ?_
      refine ⟨k + 1, ⟨by omega, ?_⟩, by omega, Ent.mk (fun _ _ h => h) rfl rfl⟩
      rw [List.range_succ, List.all_append, ho, List.all_cons, hg1, hg2]
      simp; omega
  · refine ⟨[], ⟨?_, rfl⟩, fun w' h => h.pick [0] rfl rfl⟩
    have : sortedF E = true := by
      rw [sortedF, List.all_eq_true]
      intro i hi
      exact List.all_eq_true.1 ho i (by simp at hi ⊢; omega)
    rw [hc1, this]; rfl
end Go.Proofs.YtnlkffccobdbjaaGreat
namespace Go.Proofs.YtnlkffccobdbjaaGreat
open Go Go.RowKit Go.Dw

/-- a graph that the walks may step through -/
structure Gr (N : Nat) (E : List (Int × Int)) : Prop where
  hN : N ≤ 64
  rng : ∀ e ∈ E, 0 ≤ e.1 ∧ e.1 < N ∧ 0 ≤ e.2 ∧ e.2 < N
  len : E.length ≤ 10000
def succs (E : List (Int × Int)) (k : Nat) : List Int := (E.filter fun e => e.1 == (k : Int)).map (·.2)
def nextF (N : Nat) (E : List (Int × Int)) : List (List Int) := (List.range N).map (succs E)
theorem nextF_step {N : Nat} {E : List (Int × Int)} {m k : Nat} (hm : m < E.length) (hk : E[m].1 = k) (hk' : k < (nextF N (E.take m)).length) :
    nextF N (E.take (m + 1)) = (nextF N (E.take m)).set k ((nextF N (E.take m))[k] ++ [E[m].2]) := by
  apply List.ext_getElem
  · simp [nextF]
  · intro i h1 h2
    simp only [nextF, List.length_map, List.length_range] at h1
    rw [List.getElem_set]
    simp only [nextF, List.getElem_map, List.getElem_range, succs]
    rw [List.take_succ_eq_append_getElem hm, List.filter_append, List.map_append]
    by_cases h : k = i
    · subst h; simp [hk]
    · rw [if_neg h]
      have : ¬ (E[m].1 = (i : Int)) := by omega
      simp [this]

theorem next_spec {a : Option Addr} {n c : Nat} {E : List (Int × Int)} (N : Nat) (w : World) (hL : Sl (encF fE) 2 (Hp.whole w) a n c E) (hG : Gr N E) :
    CallsE Tryz.prog 148 #[gv N a n c] w (Ret w fun v cs => ∃ a' c' h, v = .slice a' N c' ∧ cs = [.hp h] ∧ Sl (encS (encF fI) 1) 1 h a' N c' (nextF N E)) := by
  have hlen := hL.len
  have hN := hG.hN
  have hl := hG.len
  refine enter (X := cx 31) (cxg _) (args := [.agg #[.int .i64 N, .slice a n c]]) [.tmp 2] Tryz.func148 rfl rfl rfl rfl rfl ?_
  intro b
  refine mkO (f := Os.row) (cxg _) (e := 28) rfl N Os.nil rfl rfl rfl rfl (by omega) fun o ho' ho => ?_
  refine NeedL.mkS (Nat × Dw.Os × List Dw.Os × Hp) (fun g => [(1, .bx 1 0), (3, .v g.2.1.v), (10, .v (.slice a n c)), (11, .v (.int .i64 n)), (12, .v (.int .i64 g.1))]) (fun g => [.hp (Hp.whole w), .box b [.int .i64 N, .slice a n c] 134, .hp g.2.1.h, .hp g.2.2.2])
    (fun g => g.1 ≤ n ∧ g.2.1.n = N ∧ OwnO Os.row 28 1 g.2.1 g.2.2.1 ∧ Rws fI 3 1 g.2.2.2 g.2.2.1 (nextF N (E.take g.1))) (fun g => n - g.1) (0, o, List.replicate N Os.nil, Hp.emp)
    ⟨Nat.zero_le _, ho', ho, ?_⟩ (Ent.mk (fun _ _ h => h.emp) rfl rfl) ?_
  · have : nextF N (E.take 0) = List.replicate N [] := by
      apply List.ext_getElem
      · simp [nextF]
      · intro i h1 h2; simp [nextF, succs]
    dsimp only
    rw [this]
    exact Rws.init _ _ _ _ _
  rintro ⟨k, o1, os, H⟩ ⟨hk, hon, ho1, hr⟩ hsat
  dsimp only at *
  refine bsplitd (fun hlt => ?_) (fun hge => ?_)
  · have hlt' : k < E.length := by omega
    refine idx (cxg _) (e := 164) rfl hL k rfl hlt' (fun b o cs hcs hR hcell => ?_)
    subst hR
    refine ldn (cxg _) (i := 0) rfl hcell rfl ?_
    intro b2
    refine NeedD.by_order0 (cxg _) (.take 0 <| .take 1 <| .take 2 <| .take 3 <| .take 4 <| .take 5 <| .take 6 <| .take 7 <| .take 8 <| .take 9 <| .run 10 <| .run 11 <| .run 12 <| .run 13 <| .done) (by kernel_rfl) (subL_blank _ 3) ?_
    obtain ⟨h0, h1, h2, h3⟩ := hG.rng _ (List.getElem_mem hlt')
    obtain ⟨v, hv⟩ : ∃ v : Nat, E[k].1 = v := ⟨_, (Int.toNat_of_nonneg h0).symm⟩
    have hvN : v < (nextF N (E.take k)).length := by simp [nextF]; omega
    have hvo : v < os.length := by rw [hr.len]; exact hvN
    refine oidx1 (cxg _) (e := 28) rfl rfl ho1 v hv hvo fun b3 hb3 => ?_
    refine old (g := Os.v) (fun _ => rfl) (cxg _) (i := 2) rfl hb3 ho1 hvo rfl ?_
    intro b4
    refine ⟨(by repeat first | exact trivial | refine ⟨.inl rfl, ?_⟩ | refine ⟨.inr rfl, ?_⟩), ?_⟩
    refine appR (f := fI) (cxg _) (e := 3) rfl (i := 3) rfl hr hvN rfl (j := 5) E[k].2 rfl rfl rfl rfl ?_ fun o' H' hr' => ⟨(by repeat first | exact trivial | refine ⟨.inl rfl, ?_⟩ | refine ⟨.inr rfl, ?_⟩), ?_⟩
    · have : (nextF N (E.take k))[v].length ≤ E.length := by
        simp only [nextF, List.getElem_map, List.getElem_range, succs, List.length_map]
        exact Nat.le_trans (List.length_filter_le _ _) (by simp; omega)
      omega
    refine oidx1 (cxg _) (e := 28) rfl rfl ho1 v hv hvo fun b3 hb3 => ?_
    refine osto (g := Os.v) (fun _ => rfl) (cxg _) (i := 2) rfl hb3 ho1 hvo rfl rfl o' rfl rfl rfl fun o3 e1 e2 e3 ho3 => ?_
    refine nw (by omega) (by omega) ?_
    refine ⟨(k + 1, o3, os.set v o', H'), ⟨by dsimp only; omega, by dsimp only; omega, ho3, ?_⟩, by dsimp only; omega, Ent.mk (fun _ _ h => h.pick [0, 1, 2, 3] rfl rfl) (by dsimp only [Os.v]; rw [e1, e2, e3]; rfl) rfl⟩
    dsimp only
    rw [nextF_step hlt' hv hvN]
    exact hr'
  · rw [List.take_of_length_le (by omega)] at hr
    refine ⟨[.hp (o1.h.join H)], ⟨o1.a, o1.c, _, by rw [← hon]; rfl, rfl, ?_⟩, fun w' h => (h.pick [0, 2, 3] rfl rfl).join⟩
    have hh := Rws.sl (f := fI) (fun _ => rfl) (by decide) hr ho1 (hsat.dj 2 3 rfl rfl (by decide))
    rwa [hon] at hh
end Go.Proofs.YtnlkffccobdbjaaGreat
namespace Go.Proofs.YtnlkffccobdbjaaGreat
open Go Go.RowKit Go.Dw

/-- Is there a walk of s edges from a to b? -/
def wlk (E : List (Int × Int)) : Nat → Int → Int → Bool
  | 0, a, b => a == b
  | s + 1, a, b => E.any fun e => e.2 == b && wlk E s a e.1
theorem wlk_succ {E : List (Int × Int)} {s : Nat} {a b : Int} : wlk E (s + 1) a b = true ↔ ∃ c, (c, b) ∈ E ∧ wlk E s a c = true := by
  simp only [wlk, List.any_eq_true, Bool.and_eq_true, beq_iff_eq]
  constructor
  · rintro ⟨e, h1, rfl, h3⟩; exact ⟨e.1, h1, h3⟩
  · rintro ⟨c, h1, h3⟩; exact ⟨(c, b), h1, rfl, h3⟩
theorem wlk_add {E : List (Int × Int)} {a b : Int} {s : Nat} (h1 : wlk E s a b = true) : ∀ {t : Nat} {c : Int}, wlk E t b c = true → wlk E (s + t) a c = true
  | 0, c, h => by simp only [wlk, beq_iff_eq] at h; subst h; exact h1
  | t + 1, c, h => by
    obtain ⟨d, h2, h3⟩ := wlk_succ.1 h
    exact wlk_succ.2 ⟨d, h2, wlk_add h1 h3⟩
theorem wlk_split {E : List (Int × Int)} {a : Int} : ∀ {s t : Nat} {c : Int}, wlk E (s + t) a c = true → ∃ b, wlk E s a b = true ∧ wlk E t b c = true
  | s, 0, c, h => ⟨c, h, by simp [wlk]⟩
  | s, t + 1, c, h => by
    obtain ⟨d, h2, h3⟩ := wlk_succ.1 (show wlk E ((s + t) + 1) a c = true from h)
    obtain ⟨b, h4, h5⟩ := wlk_split h3
    exact ⟨b, h4, wlk_succ.2 ⟨d, h2, h5⟩⟩
theorem wlk_rng {N : Nat} {E : List (Int × Int)} (hG : Gr N E) {a : Int} (ha : 0 ≤ a ∧ a < N) : ∀ {s : Nat} {b : Int}, wlk E s a b = true → 0 ≤ b ∧ b < N
  | 0, b, h => by simp only [wlk, beq_iff_eq] at h; subst h; exact ha
  | s + 1, b, h => by
    obtain ⟨c, h1, _⟩ := wlk_succ.1 h
    have := hG.rng _ h1
    exact ⟨this.2.2.1, this.2.2.2⟩

theorem nodup_len : ∀ (N : Nat) (L : List Int), L.Nodup → (∀ x ∈ L, 0 ≤ x ∧ x < N) → L.length ≤ N
  | 0, [], _, _ => Nat.le_refl _
  | 0, x :: r, _, h => by have := h x (by simp); omega
  | N + 1, L, hn, h => by
    have h1 := nodup_len N (L.filter fun x => x != (N : Int)) (hn.filter _) (fun x hx => by
      simp only [List.mem_filter, bne_iff_ne, ne_eq] at hx
      have := h x hx.1
      omega)
    have h2 : ∀ L : List Int, L.Nodup → L.length ≤ (L.filter fun x => x != (N : Int)).length + 1 := by
      intro L hn
      induction L with
      | nil => simp
      | cons x r ih =>
        have hn' := List.nodup_cons.1 hn
        by_cases hx : x = (N : Int)
        · have : r.filter (fun x => x != (N : Int)) = r := List.filter_eq_self.2 fun y hy => by
            simp only [bne_iff_ne, ne_eq]
            intro e; subst e; exact hn'.1 (hx ▸ hy)
          rw [List.filter_cons_of_neg (by simp [hx]), this]; simp
        · rw [List.filter_cons_of_pos (by simp [hx])]
          have := ih hn'.2
          simp only [List.length_cons]; omega
    have := h2 L hn
    omega

/-- the least s < n for which p holds -/
def least (p : Nat → Bool) : Nat → Option Nat
  | 0 => none
  | n + 1 => match least p n with
    | some s => some s
    | none => if p n then some n else none
theorem least_some {p : Nat → Bool} : ∀ {n s : Nat}, least p n = some s → s < n ∧ p s = true ∧ ∀ t, t < s → p t = false
  | n + 1, s, h => by
    unfold least at h
    cases hl : least p n with
    | some s' => rw [hl] at h; cases h; have := least_some hl; exact ⟨by omega, this.2⟩
    | none =>
      rw [hl] at h
      simp only at h
      split at h
      · cases h
        rename_i hp
        refine ⟨Nat.lt_succ_self _, hp, fun t ht => ?_⟩
        exact least_none hl t ht
      · cases h
where least_none {p : Nat → Bool} : ∀ {n : Nat}, least p n = none → ∀ t, t < n → p t = false
  | n + 1, h, t, ht => by
    unfold least at h
    cases hl : least p n with
    | some s' => rw [hl] at h; cases h
    | none =>
      rw [hl] at h
      simp only at h
      split at h
      · cases h
      · rename_i hp
        by_cases e : t = n
        · subst e; simpa using hp
        · exact least_none hl t (by omega)
theorem least_none {p : Nat → Bool} {n : Nat} (h : least p n = none) : ∀ t, t < n → p t = false := least_some.least_none h
theorem least_ex {p : Nat → Bool} {n s : Nat} (hs : s < n) (hp : p s = true) : ∃ t, least p n = some t := by
  cases h : least p n with
  | some t => exact ⟨t, rfl⟩
  | none => have := least_none h s hs; rw [hp] at this; cases this

/-- A shortest walk is short. -/
theorem wlk_short {N : Nat} {E : List (Int × Int)} (hG : Gr N E) {a b : Int} (ha : 0 ≤ a ∧ a < N) {s : Nat} (h : wlk E s a b = true) : ∃ t, t < N ∧ wlk E t a b = true := by
  obtain ⟨t, ht⟩ := least_ex (p := fun s => wlk E s a b) (Nat.lt_succ_self s) h
  obtain ⟨_, h2, h3⟩ := least_some ht
  refine ⟨t, ?_, h2⟩
  -- a node at each distance
  have at' : ∀ d, d ≤ t → ∃ v, wlk E d a v = true ∧ ∀ d', d' < d → wlk E d' a v = false := by
    intro d hd
    obtain ⟨v, h4, h5⟩ := wlk_split (s := d) (t := t - d) (a := a) (c := b) (by rw [show d + (t - d) = t by omega]; exact h2)
    refine ⟨v, h4, fun d' hd' => ?_⟩
    cases hw : wlk E d' a v with
    | false => rfl
    | true =>
      have := wlk_add hw h5
      rw [h3 _ (by omega)] at this
      cases this
  have lst : ∀ d, d ≤ t + 1 → ∃ L : List Int, L.length = d ∧ L.Nodup ∧ ∀ v ∈ L, (0 ≤ v ∧ v < N) ∧ ∃ d', d' < d ∧ wlk E d' a v = true := by
    intro d
    induction d with
    | zero => intro _; exact ⟨[], rfl, by simp, by simp⟩
    | succ d ih =>
      intro hd
      obtain ⟨L, h4, h5, h6⟩ := ih (by omega)
      obtain ⟨v, h7, h8⟩ := at' d (by omega)
      refine ⟨v :: L, by simp [h4], ?_, ?_⟩
      · refine List.nodup_cons.2 ⟨fun hv => ?_, h5⟩
        obtain ⟨_, d', h9, h10⟩ := h6 v hv
        rw [h8 d' h9] at h10; cases h10
      · intro x hx
        rcases List.mem_cons.1 hx with rfl | hx
        · exact ⟨wlk_rng hG ha h7, d, by omega, h7⟩
        · obtain ⟨h9, d', h10, h11⟩ := h6 x hx
          exact ⟨h9, d', by omega, h11⟩
  obtain ⟨L, h4, h5, h6⟩ := lst (t + 1) (Nat.le_refl _)
  have := nodup_len N L h5 (fun x hx => (h6 x hx).1)
  omega

/-- the distance from a to b -/
def dst (N : Nat) (E : List (Int × Int)) (a b : Int) : Option Nat := least (fun s => wlk E s a b) N
def rch (N : Nat) (E : List (Int × Int)) (a b : Int) : Bool := (dst N E a b).isSome
theorem rch_iff {N : Nat} {E : List (Int × Int)} (hG : Gr N E) {a b : Int} (ha : 0 ≤ a ∧ a < N) : rch N E a b = true ↔ ∃ s, wlk E s a b = true := by
  unfold rch dst
  constructor
  · intro h
    obtain ⟨s, hs⟩ := Option.isSome_iff_exists.1 h
    exact ⟨s, (least_some hs).2.1⟩
  · rintro ⟨s, hs⟩
    obtain ⟨t, h1, h2⟩ := wlk_short hG ha hs
    obtain ⟨u, hu⟩ := least_ex (p := fun s => wlk E s a b) h1 h2
    rw [hu]; rfl
/-- for each node: is it reached from one of F? -/
def rchL (N : Nat) (E : List (Int × Int)) (F : List Int) : List Bool := (List.range N).map fun (b : Nat) => F.any fun a => rch N E a b

/-! ### The search -/
def sn (S : List Bool) (x : Int) : Bool := S.getD x.toNat false
theorem sn_set {S : List Bool} {x y : Int} (hx : 0 ≤ x) (hl : x.toNat < S.length) (hy : 0 ≤ y) : sn (S.set x.toNat true) y = (decide (y = x) || sn S y) := by
  unfold sn
  rw [List.getD_eq_getElem?_getD, List.getD_eq_getElem?_getD, List.getElem?_set]
  by_cases h : x = y
  · subst h; simp [hl]
  · have : x.toNat ≠ y.toNat := by omega
    simp [this, Ne.symm h]
def cf (S : List Bool) : Nat := (S.filter (!·)).length
theorem cf_set : ∀ {S : List Bool} {k : Nat}, S[k]? = some false → cf (S.set k true) + 1 = cf S
  | x :: r, 0, h => by simp at h; subst h; simp [cf]
  | x :: r, k + 1, h => by
    have := cf_set (S := r) (k := k) (by simpa using h)
    cases x <;> simp [cf] at * <;> omega
structure Bfs (N : Nat) (E : List (Int × Int)) (F : List Int) (S : List Bool) (Q : List Int) (k : Int) (rest : List Int) : Prop where
  len : S.length = N
  q : ∀ x ∈ Q, 0 ≤ x ∧ x < N ∧ sn S x = true
  fnd : ∀ x : Int, 0 ≤ x → x < N → sn S x = true → ∃ a ∈ F, ∃ s, wlk E s a x = true
  src : ∀ x ∈ F, sn S x = true
  clo : ∀ e ∈ E, sn S e.1 = true → e.1 ∈ Q ∨ sn S e.2 = true ∨ (e.1 = k ∧ e.2 ∈ rest)
  kk : ∀ t ∈ rest, (k, t) ∈ E ∧ sn S k = true
theorem mem_succs {E : List (Int × Int)} {k : Nat} {t : Int} : t ∈ succs E k ↔ ((k : Int), t) ∈ E := by
  simp only [succs, List.mem_map, List.mem_filter, beq_iff_eq]
  constructor
  · rintro ⟨e, ⟨h1, h2⟩, rfl⟩; rw [← h2]; exact h1
  · intro h; exact ⟨_, ⟨h, rfl⟩, rfl⟩
theorem Bfs.pop {N : Nat} {E : List (Int × Int)} {F : List Int} {S : List Bool} {Q : List Int} {k k0 : Int} {n : Nat} (h : Bfs N E F S (k :: Q) k0 []) (hk : k = n) : Bfs N E F S Q k (succs E n) := by
  refine ⟨h.len, fun x hx => h.q x (by simp [hx]), h.fnd, h.src, fun e he hs => ?_, fun t ht => ?_⟩
  · rcases h.clo e he hs with h1 | h1 | h1
    · rcases List.mem_cons.1 h1 with h2 | h2
      · refine .inr (.inr ⟨h2, mem_succs.2 ?_⟩)
        rw [← hk, ← h2]; exact he
      · exact .inl h2
    · exact .inr (.inl h1)
    · simp at h1
  · rw [hk]; exact ⟨mem_succs.1 ht, by rw [← hk]; exact (h.q k (by simp)).2.2⟩
theorem Bfs.skip {N : Nat} {E : List (Int × Int)} {F : List Int} {S : List Bool} {Q : List Int} {k t : Int} {rest : List Int} (h : Bfs N E F S Q k (t :: rest)) (ht : sn S t = true) : Bfs N E F S Q k rest := by
  refine ⟨h.len, h.q, h.fnd, h.src, fun e he hs => ?_, fun t ht => h.kk t (by simp [ht])⟩
  rcases h.clo e he hs with h1 | h1 | ⟨h1, h2⟩
  · exact .inl h1
  · exact .inr (.inl h1)
  · rcases List.mem_cons.1 h2 with h3 | h3
    · exact .inr (.inl (by rw [h3]; exact ht))
    · exact .inr (.inr ⟨h1, h3⟩)
theorem Bfs.mark {N : Nat} {E : List (Int × Int)} (hG : Gr N E) {F : List Int} {S : List Bool} {Q : List Int} {k t : Int} {rest : List Int} (h : Bfs N E F S Q k (t :: rest)) : Bfs N E F (S.set t.toNat true) (Q ++ [t]) k rest := by
  obtain ⟨hkt, hk⟩ := h.kk t (by simp)
  obtain ⟨r1, r2, r3, r4⟩ := hG.rng _ hkt
  simp only at r1 r2 r3 r4
  have hl : t.toNat < S.length := by rw [h.len]; omega
  have up : ∀ x, 0 ≤ x → sn S x = true → sn (S.set t.toNat true) x = true := fun x h0 hs => by rw [sn_set r3 hl h0, hs, Bool.or_true]
  have self : sn (S.set t.toNat true) t = true := by rw [sn_set r3 hl r3]; simp
  refine ⟨by rw [List.length_set]; exact h.len, fun x hx => ?_, fun x h0 h1 hs => ?_, fun x hx => ?_, fun e he hs => ?_, fun u hu => ⟨(h.kk u (by simp [hu])).1, up _ r1 (h.kk u (by simp [hu])).2⟩⟩
  · rcases List.mem_append.1 hx with h1 | h1
    · obtain ⟨h2, h3, h4⟩ := h.q x h1; exact ⟨h2, h3, up x h2 h4⟩
    · simp at h1; subst h1; exact ⟨r3, r4, self⟩
  · rw [sn_set r3 hl h0] at hs
    by_cases hx : x = t
    · subst hx
      obtain ⟨a, ha, s, hs⟩ := h.fnd k r1 r2 hk
      exact ⟨a, ha, s + 1, wlk_succ.2 ⟨k, hkt, hs⟩⟩
    · simp [hx] at hs; exact h.fnd x h0 h1 hs
  · have h1 := h.src x hx
    by_cases h0 : 0 ≤ x
    · exact up x h0 h1
    · unfold sn at *
      rw [show x.toNat = 0 by omega] at *
      rw [List.getD_eq_getElem?_getD] at *
      rw [List.getElem?_set]
      split
      · rfl
      · exact h1
  · have he' := hG.rng e he
    rw [sn_set r3 hl he'.1] at hs
    by_cases hx : e.1 = t
    · exact .inl (by simp [hx])
    · simp [hx] at hs
      rcases h.clo e he hs with h1 | h1 | ⟨h1, h2⟩
      · exact .inl (by simp [h1])
      · exact .inr (.inl (up _ he'.2.2.1 h1))
      · rcases List.mem_cons.1 h2 with h3 | h3
        · exact .inr (.inl (by rw [h3]; exact self))
        · exact .inr (.inr ⟨h1, h3⟩)
theorem Bfs.fin {N : Nat} {E : List (Int × Int)} (hG : Gr N E) {F : List Int} (hF : ∀ x ∈ F, 0 ≤ x ∧ x < N) {S : List Bool} {k : Int} (h : Bfs N E F S [] k []) : S = rchL N E F := by
  have clo : ∀ a, sn S a = true → ∀ s b, wlk E s a b = true → sn S b = true := by
    intro a ha s
    induction s with
    | zero => intro b hb; simp only [wlk, beq_iff_eq] at hb; subst hb; exact ha
    | succ s ih =>
      intro b hb
      obtain ⟨c, h1, h2⟩ := wlk_succ.1 hb
      rcases h.clo _ h1 (ih c h2) with h3 | h3 | ⟨_, h3⟩
      · cases h3
      · exact h3
      · cases h3
  apply List.ext_getElem
  · simp [rchL, h.len]
  · intro i h1 h2
    simp only [rchL, List.getElem_map, List.getElem_range]
    have hi : i < N := by rw [← h.len]; exact h1
    have e1 : S[i] = sn S i := by simp [sn, h1]
    rw [e1, Bool.eq_iff_iff, List.any_eq_true]
    constructor
    · intro hs
      obtain ⟨a, ha, hw⟩ := h.fnd i (by omega) (by omega) hs
      exact ⟨a, ha, (rch_iff hG (hF a ha)).2 hw⟩
    · rintro ⟨a, ha, hr⟩
      obtain ⟨s, hs⟩ := (rch_iff hG (hF a ha)).1 hr
      exact clo a (h.src a ha) s _ hs
/-- the start: S marks those of F, and these alone -/
theorem Bfs.init {N : Nat} {E : List (Int × Int)} (hG : Gr N E) {F : List Int} (hF : ∀ x ∈ F, 0 ≤ x ∧ x < N) {S : List Bool} (hl : S.length = N) (hS : ∀ x : Int, 0 ≤ x → (sn S x = true ↔ x ∈ F)) : Bfs N E F S F 0 [] := by
  refine ⟨hl, fun x hx => ⟨(hF x hx).1, (hF x hx).2, (hS x (hF x hx).1).2 hx⟩, fun x h0 h1 hs => ⟨x, (hS x h0).1 hs, 0, by simp [wlk]⟩, fun x hx => (hS x (hF x hx).1).2 hx, fun e he hs => ?_, by simp⟩
  exact .inl ((hS _ (hG.rng e he).1).1 hs)
end Go.Proofs.YtnlkffccobdbjaaGreat
namespace Go.Proofs.YtnlkffccobdbjaaGreat
open Go Go.RowKit Go.Dw

theorem sn_nat {S : List Bool} {k : Nat} (h : k < S.length) : sn S (k : Int) = S[k] := by simp [sn, h]
theorem Bfs.any {N : Nat} {E : List (Int × Int)} {F : List Int} {S : List Bool} {Q : List Int} {k k' : Int} (h : Bfs N E F S Q k []) : Bfs N E F S Q k' [] :=
  ⟨h.len, h.q, h.fnd, h.src, fun e he hs => (h.clo e he hs).imp id (fun h => h.imp id (fun h => by simp at h)), by simp⟩
theorem cf_le (S : List Bool) : cf S ≤ S.length := List.length_filter_le _ _

end Go.Proofs.YtnlkffccobdbjaaGreat
namespace Go.Proofs.YtnlkffccobdbjaaGreat
open Go Go.RowKit Go.Dw

/-- the places where S holds -/
def lst (S : List Bool) : List Int := ((List.range S.length).filter fun k => S.getD k false).map fun (k : Nat) => (k : Int)
def lstK (S : List Bool) (k : Nat) : List Int := ((List.range k).filter fun k => S.getD k false).map fun (k : Nat) => (k : Int)
theorem lstK_succ {S : List Bool} {k : Nat} (h : k < S.length) : lstK S (k + 1) = if S[k] then lstK S k ++ [(k : Int)] else lstK S k := by
  unfold lstK
  rw [List.range_succ, List.filter_append, List.map_append]
  by_cases hb : S[k] = true
  · simp [hb, h]
  · simp [hb, h]
theorem lstK_len (S : List Bool) (k : Nat) : (lstK S k).length ≤ k := by
  unfold lstK; rw [List.length_map]
  exact Nat.le_trans (List.length_filter_le _ _) (by simp)

def cloF (N : Nat) (E : List (Int × Int)) : List (List Bool) := (List.range N).map fun (a : Nat) => rchL N E [(a : Int)]
def cloK (N : Nat) (E : List (Int × Int)) (k : Nat) : List (List Bool) := (List.range N).map fun (a : Nat) => if a < k then rchL N E [(a : Int)] else []
theorem cloK_succ (N : Nat) (E : List (Int × Int)) (k : Nat) : cloK N E (k + 1) = (cloK N E k).set k (rchL N E [(k : Int)]) := by
  apply List.ext_getElem
  · simp [cloK]
  · intro i h1 h2
    rw [List.getElem_set]
    simp only [cloK, List.getElem_map, List.getElem_range]
    by_cases h : k = i
    · subst h; simp
    · rw [if_neg h]
      by_cases h3 : i < k
      · rw [if_pos h3, if_pos (by omega)]
      · rw [if_neg h3, if_neg (by omega)]
end Go.Proofs.YtnlkffccobdbjaaGreat
namespace Go.Proofs.YtnlkffccobdbjaaGreat
open Go Go.RowKit Go.Dw

/-- Do a and b reach each other? -/
def eqv (N : Nat) (E : List (Int × Int)) (a b : Nat) : Bool := rch N E a b && rch N E b a
theorem eqv_symm {N : Nat} {E : List (Int × Int)} {a b : Nat} : eqv N E a b = eqv N E b a := by unfold eqv; rw [Bool.and_comm]
theorem rch_refl {N : Nat} {E : List (Int × Int)} (hG : Gr N E) {a : Nat} (ha : a < N) : rch N E a a = true := (rch_iff hG (by omega)).2 ⟨0, by simp [wlk]⟩
theorem rch_trans {N : Nat} {E : List (Int × Int)} (hG : Gr N E) {a b c : Nat} (ha : a < N) (hb : b < N) (h1 : rch N E a b = true) (h2 : rch N E b c = true) : rch N E a c = true := by
  obtain ⟨s, hs⟩ := (rch_iff hG (by omega)).1 h1
  obtain ⟨t, ht⟩ := (rch_iff hG (by omega)).1 h2
  exact (rch_iff hG (by omega)).2 ⟨s + t, wlk_add hs ht⟩
theorem eqv_refl {N : Nat} {E : List (Int × Int)} (hG : Gr N E) {a : Nat} (ha : a < N) : eqv N E a a = true := by unfold eqv; simp [rch_refl hG ha]
theorem eqv_trans {N : Nat} {E : List (Int × Int)} (hG : Gr N E) {a b c : Nat} (ha : a < N) (hb : b < N) (hc : c < N) (h1 : eqv N E a b = true) (h2 : eqv N E b c = true) : eqv N E a c = true := by
  unfold eqv at *
  simp only [Bool.and_eq_true] at *
  exact ⟨rch_trans hG ha hb h1.1 h2.1, rch_trans hG hc hb h2.2 h1.2⟩
/-- the least of its class -/
def isLeast (N : Nat) (E : List (Int × Int)) (k : Nat) : Bool := (List.range k).all fun j => !eqv N E j k
def reps (N : Nat) (E : List (Int × Int)) (k : Nat) : List Nat := (List.range k).filter (isLeast N E)
def cls (N : Nat) (E : List (Int × Int)) (k : Nat) : List Int := ((List.range N).filter fun j => eqv N E k j).map fun (j : Nat) => (j : Int)
def ofK (N : Nat) (E : List (Int × Int)) (k j : Nat) : Int := idxBy (fun r => eqv N E r j) (reps N E k)
def compF (N : Nat) (E : List (Int × Int)) : List (List Int) := (reps N E N).map (cls N E)
def ofF (N : Nat) (E : List (Int × Int)) : List Int := (List.range N).map (ofK N E N)
theorem reps_succ (N : Nat) (E : List (Int × Int)) (k : Nat) : reps N E (k + 1) = reps N E k ++ (if isLeast N E k then [k] else []) := by
  unfold reps
  rw [List.range_succ, List.filter_append]
  by_cases h : isLeast N E k = true <;> simp [h]
theorem reps_lt {N : Nat} {E : List (Int × Int)} {k r : Nat} (h : r ∈ reps N E k) : r < k ∧ isLeast N E r = true := by
  unfold reps at h; simpa using h
theorem reps_len (N : Nat) (E : List (Int × Int)) (k : Nat) : (reps N E k).length ≤ k := Nat.le_trans (List.length_filter_le _ _) (by simp)
/-- each node has a least one of its class -/
theorem least_of {N : Nat} {E : List (Int × Int)} (hG : Gr N E) : ∀ (j : Nat), j < N → ∃ r, r ≤ j ∧ isLeast N E r = true ∧ eqv N E r j = true := by
  intro j
  induction j using Nat.strongRecOn with
  | _ j ih =>
    intro hj
    cases h : isLeast N E j with
    | true => exact ⟨j, Nat.le_refl _, h, eqv_refl hG hj⟩
    | false =>
      unfold isLeast at h
      simp only [List.all_eq_false, List.mem_range] at h
      obtain ⟨i, hi, hm⟩ := h
      simp at hm
      obtain ⟨r, h1, h2, h3⟩ := ih i hi (by omega)
      exact ⟨r, by omega, h2, eqv_trans hG (by omega) (by omega) hj h3 hm⟩
theorem ofK_neg {N : Nat} {E : List (Int × Int)} {k j : Nat} : ofK N E k j < 0 ↔ ∀ r ∈ reps N E k, eqv N E r j = false := by
  have h := idxBy_any (fun r => eqv N E r j) (reps N E k)
  unfold ofK
  constructor
  · intro h1 r hr
    rw [decide_eq_false (by omega)] at h
    exact Bool.eq_false_iff.2 (List.any_eq_false.1 h.symm r hr)
  · intro h1
    have : (reps N E k).any (fun r => eqv N E r j) = false := List.any_eq_false.2 fun r hr => by rw [h1 r hr]; simp
    rw [this] at h
    simpa using h
/-- a node whose class is not yet listed is the least of it -/
theorem ofK_self {N : Nat} {E : List (Int × Int)} (hG : Gr N E) {k : Nat} (hk : k < N) : ofK N E k k < 0 ↔ isLeast N E k = true := by
  rw [ofK_neg]
  constructor
  · intro h
    obtain ⟨r, h1, h2, h3⟩ := least_of hG k hk
    by_cases e : r = k
    · subst e; exact h2
    · have := h r (by unfold reps; simp [h2]; omega)
      rw [h3] at this; cases this
  · intro h r hr
    have := (reps_lt hr).1
    unfold isLeast at h
    simpa using List.all_eq_true.1 h r (List.mem_range.2 this)
theorem idxBy_append {α : Type} (p : α → Bool) (x : α) : ∀ L : List α, idxBy p (L ++ [x]) = if idxBy p L < 0 then (if p x then (L.length : Int) else -1) else idxBy p L
  | [] => by simp [idxBy]
  | y :: r => by
    have ih := idxBy_append p x r
    have hg := idxBy_ge p r
    simp only [List.cons_append, idxBy, ih]
    by_cases h : p y = true
    · simp [h]
    · simp only [h, Bool.false_eq_true, if_false]
      by_cases h2 : idxBy p r < 0
      · rw [if_pos h2, if_pos h2]
        by_cases h3 : p x = true
        · simp [h3]; omega
        · simp [h3]
      · rw [if_neg h2, if_neg h2, if_neg (by omega)]
/-- of[j] once k's class is under way, up to m -/
def ofM (N : Nat) (E : List (Int × Int)) (k m j : Nat) : Int := if decide (j < m) && decide (k ≤ j) && eqv N E k j then ((reps N E k).length : Int) else ofK N E k j
def clsM (N : Nat) (E : List (Int × Int)) (k m : Nat) : List Int := ((List.range m).filter fun j => decide (k ≤ j) && eqv N E k j).map fun (j : Nat) => (j : Int)
theorem clsM_start (N : Nat) (E : List (Int × Int)) (k : Nat) : clsM N E k k = [] := by
  unfold clsM
  rw [List.filter_eq_nil_iff.2 (fun j hj => by have := List.mem_range.1 hj; simp; omega)]
  rfl
theorem clsM_succ (N : Nat) (E : List (Int × Int)) {k m : Nat} (h : k ≤ m) : clsM N E k (m + 1) = if eqv N E k m then clsM N E k m ++ [(m : Int)] else clsM N E k m := by
  unfold clsM
  rw [List.range_succ, List.filter_append, List.map_append]
  by_cases hb : eqv N E k m = true <;> simp [hb, h]
theorem least_eqv {N : Nat} {E : List (Int × Int)} {k j : Nat} (h : isLeast N E k = true) (hm : eqv N E k j = true) : k ≤ j := by
  by_cases h2 : j < k
  · have := List.all_eq_true.1 h j (List.mem_range.2 h2)
    rw [eqv_symm, hm] at this; cases this
  · omega
theorem clsM_end {N : Nat} {E : List (Int × Int)} {k : Nat} (h : isLeast N E k = true) : clsM N E k N = cls N E k := by
  unfold clsM cls
  congr 1
  apply List.filter_congr
  intro j _
  by_cases hm : eqv N E k j = true
  · simp [hm, least_eqv h hm]
  · simp [hm]
theorem clsM_len (N : Nat) (E : List (Int × Int)) (k m : Nat) : (clsM N E k m).length ≤ m := by
  unfold clsM; rw [List.length_map]
  exact Nat.le_trans (List.length_filter_le _ _) (by simp)
theorem ofM_end {N : Nat} {E : List (Int × Int)} (hG : Gr N E) {k j : Nat} (hk : k < N) (hj : j < N) (h : isLeast N E k = true) : ofM N E k N j = ofK N E (k + 1) j := by
  unfold ofM
  rw [show ofK N E (k + 1) j = idxBy (fun r => eqv N E r j) (reps N E k ++ [k]) by unfold ofK; rw [reps_succ, if_pos h], idxBy_append]
  by_cases hm : eqv N E k j = true
  · rw [if_pos (by simp [hm, hj, least_eqv h hm])]
    rw [if_pos ?_, if_pos hm]
    refine ofK_neg.2 fun r hr => ?_
    cases hrj : eqv N E r j with
    | false => rfl
    | true =>
      have h1 := (reps_lt hr).1
      have h2 := eqv_trans hG (by omega) hj hk hrj (by rw [eqv_symm]; exact hm)
      have := List.all_eq_true.1 h r (List.mem_range.2 h1)
      rw [h2] at this; cases this
  · rw [if_neg (by simp [hm]), if_neg (c := (fun r => eqv N E r j) k = true) hm]
    unfold ofK
    have := idxBy_ge (fun r => eqv N E r j) (reps N E k)
    split
    · omega
    · rfl
theorem ofK_next {N : Nat} {E : List (Int × Int)} {k j : Nat} (h : isLeast N E k = false) : ofK N E (k + 1) j = ofK N E k j := by
  unfold ofK; rw [reps_succ, h]; simp
theorem rchL_get {N : Nat} {E : List (Int × Int)} {a b : Nat} (h1 : a < (cloF N E).length) (h2 : b < ((cloF N E)[a]).length) : ((cloF N E)[a])[b] = rch N E a b := by
  simp [cloF, rchL]
def ofLM (N : Nat) (E : List (Int × Int)) (k m : Nat) : List Int := (List.range N).map (ofM N E k m)
theorem ofLM_step {N : Nat} {E : List (Int × Int)} {k m : Nat} (hkm : k ≤ m) : ofLM N E k (m + 1) = if eqv N E k m then (ofLM N E k m).set m ((reps N E k).length : Int) else ofLM N E k m := by
  apply List.ext_getElem
  · split <;> simp [ofLM]
  · intro i h1 h2
    simp only [ofLM, List.getElem_map, List.getElem_range]
    by_cases hb : eqv N E k m = true
    · simp only [if_pos hb, List.getElem_set, List.getElem_map, List.getElem_range]
      by_cases e : m = i
      · subst e; simp [ofM, hkm, hb]
      · rw [if_neg e]
        unfold ofM
        by_cases h3 : i < m
        · simp [h3, show i < m + 1 by omega]
        · simp [h3, show ¬ i < m + 1 by omega]
    · simp only [if_neg hb, List.getElem_map, List.getElem_range]
      unfold ofM
      by_cases e : m = i
      · subst e; simp [hb]
      · by_cases h3 : i < m
        · simp [h3, show i < m + 1 by omega]
        · simp [h3, show ¬ i < m + 1 by omega]
def ofL (N : Nat) (E : List (Int × Int)) (k : Nat) : List Int := (List.range N).map (ofK N E k)
theorem ofL_zero (N : Nat) (E : List (Int × Int)) : ofL N E 0 = List.replicate N (-1) := by
  apply List.ext_getElem
  · simp [ofL]
  · intro i h1 h2; simp [ofL, ofK, reps, idxBy]
theorem ofLM_start (N : Nat) (E : List (Int × Int)) (k : Nat) : ofLM N E k k = ofL N E k := by
  unfold ofLM ofL
  apply List.map_congr_left
  intro j _
  unfold ofM
  rw [if_neg]
  simp
  omega
theorem ofLM_end {N : Nat} {E : List (Int × Int)} (hG : Gr N E) {k : Nat} (hk : k < N) (h : isLeast N E k = true) : ofLM N E k N = ofL N E (k + 1) := by
  unfold ofLM ofL
  apply List.map_congr_left
  intro j hj
  exact ofM_end hG hk (List.mem_range.1 hj) h
theorem ofL_next {N : Nat} {E : List (Int × Int)} {k : Nat} (h : isLeast N E k = false) : ofL N E (k + 1) = ofL N E k := by
  unfold ofL
  apply List.map_congr_left
  intro j _
  exact ofK_next h
end Go.Proofs.YtnlkffccobdbjaaGreat
namespace Go.Proofs.YtnlkffccobdbjaaGreat
open Go Go.RowKit Go.Dw

def minK (N k : Nat) : List Int := (List.range N).map fun i => if i < k then -1 else 0
theorem minK_succ (N k : Nat) : minK N (k + 1) = (minK N k).set k (-1) := by
  apply List.ext_getElem
  · simp [minK]
  · intro i h1 h2
    rw [List.getElem_set]
    simp only [minK, List.getElem_map, List.getElem_range]
    by_cases h : k = i
    · subst h; simp
    · rw [if_neg h]
      by_cases h3 : i < k
      · rw [if_pos h3, if_pos (by omega)]
      · rw [if_neg h3, if_neg (by omega)]
theorem minK_zero (N : Nat) : minK N 0 = List.replicate N 0 := by
  apply List.ext_getElem
  · simp [minK]
  · intro i h1 h2; simp [minK]
theorem minK_end (N : Nat) : minK N N = List.replicate N (-1) := by
  apply List.ext_getElem
  · simp [minK]
  · intro i h1 h2
    have : i < N := by simpa using h2
    simp [minK, this]

end Go.Proofs.YtnlkffccobdbjaaGreat
