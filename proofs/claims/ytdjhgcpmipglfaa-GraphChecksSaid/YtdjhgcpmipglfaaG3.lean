/- Contracts of the library's functions on slices at the types of this translation: copying, searching by a function, order. Each theorem's premises are its own. -/
import Derived.Test.YtdjhgcpmipglfaaG2
import Derived.Test.YtdjhgcpmipglfaaDwf
import Derived.WalkSpells
namespace Go.Proofs.Ytdjhgcpmipglfaa
open Go Go.RowKit Go.Dw

theorem qNilEq {T : Nat} {s : List Ch} {xo yo : Operand} {a : Option Addr} {n c : Nat} {q : TV → Prop} (hT : (elsz (cx 0) T).isSome = true) (h : q (.v (.bool a.isNone))) :
    NeedQ Try.prog s (do eqGuard .eql T xo yo (.slice a n c) (.slice none 0 0); binOp .eql T (.slice a n c) (.slice none 0 0)) q := by
  obtain ⟨⟨e, te⟩, hx⟩ := Option.isSome_iff_exists.1 hT
  have hu := (elsz_spec (cxg 0) hx).1
  refine ⟨_, fun w _ => ?_, h⟩
  have hun : (underlying T).run Try.prog w = .ok (.slice e) w := by simp [underlying, show Try.prog.underlying T = _ from hu]
  have hg : (eqGuard .eql T xo yo (.slice a n c) (.slice none 0 0)).run Try.prog w = .ok () w := by simp [eqGuard]
  rw [Sem.run_bind, hg]
  simp only [Result.andThen_ok, binOp, Sem.run_bind]
  have : (Op.equal T (.slice a n c) (.slice none 0 0)).run Try.prog w = .ok a.isNone w := by
    unfold Op.equal Op.maxDepth
    rw [show (10000 : Nat) = 9999 + 1 from rfl]
    unfold Op.equalIn
    simp only [Sem.run_bind, hun, Result.andThen_ok]
    cases a <;> simp
  rw [this]
  rfl

/-- what Clone hands back: a new slice -/
theorem cloneEdges_spec {a : Option Addr} {n c : Nat} {L : List (Int × Int)} (w : World) (hL : Sl (encF fE) 2 (Hp.whole w) a n c L) (hn : n < 1000000000) :
    CallsE Try.prog 17 #[.slice a n c] w (Ret w fun v cs => ∃ o, v = o.v ∧ cs = [.hp o.h] ∧ OwnO fE 32 2 o L) := by
  have hlen := hL.len
  refine enter (X := cx 8) (cxg _) (args := [.slice a n c]) [.tmp 2] Try.func17 rfl rfl rfl rfl rfl ?_
  refine qNilEq rfl ?_
  refine bsplit (fun h => ?_) (fun h => ?_)
  · refine ⟨[.hp Hp.emp], ⟨Os.nil, rfl, rfl, ?_⟩, fun w' h => h.emp⟩
    have : L = [] := by
      cases a with
      | none => cases L with
        | nil => rfl
        | cons x r => obtain ⟨b, off, cs, h1, _⟩ := hL.cells 0 (by simp); cases h1
      | some _ => simp at h
    rw [this]; exact OwnO.nil _ _ _
  · intro b
    refine app0 (cxg _) (e := 32) rfl (fun _ => rfl) (fun _ => rfl) (k := 0) rfl hL rfl (by omega) fun o' ho' => ?_
    exact ⟨[.hp o'.h], ⟨o', rfl, rfl, ho'⟩, fun w' h => h.pick [0, 2] rfl rfl⟩
theorem cloneInts_spec {a : Option Addr} {n c : Nat} {L : List Int} (w : World) (hL : Sl (encF fI) 1 (Hp.whole w) a n c L) (hn : n < 1000000000) :
    CallsE Try.prog 55 #[.slice a n c] w (Ret w fun v cs => ∃ o, v = o.v ∧ cs = [.hp o.h] ∧ OwnO fI 3 1 o L) := by
  have hlen := hL.len
  refine enter (X := cx 8) (cxg _) (args := [.slice a n c]) [.tmp 2] Try.func55 rfl rfl rfl rfl rfl ?_
  refine qNilEq rfl ?_
  refine bsplit (fun h => ?_) (fun h => ?_)
  · refine ⟨[.hp Hp.emp], ⟨Os.nil, rfl, rfl, ?_⟩, fun w' h => h.emp⟩
    have : L = [] := by
      cases a with
      | none => cases L with
        | nil => rfl
        | cons x r => obtain ⟨b, off, cs, h1, _⟩ := hL.cells 0 (by simp); cases h1
      | some _ => simp at h
    rw [this]; exact OwnO.nil _ _ _
  · intro b
    refine app0 (cxg _) (e := 3) rfl (fun _ => rfl) (fun _ => rfl) (k := 0) rfl hL rfl (by omega) fun o' ho' => ?_
    exact ⟨[.hp o'.h], ⟨o', rfl, rfl, ho'⟩, fun w' h => h.pick [0, 2] rfl rfl⟩

/-- lexicographic order of lists: -1, 0, 1 -/
def cmpL : List Int → List Int → Int
  | [], [] => 0
  | [], _ :: _ => -1
  | _ :: _, [] => 1
  | x :: r, y :: t => if cmpI x y ≠ 0 then cmpI x y else cmpL r t
theorem cmpL_skip : ∀ (L L' : List Int) (k : Nat), L.take k = L'.take k → k ≤ L.length → k ≤ L'.length → cmpL L L' = cmpL (L.drop k) (L'.drop k)
  | _, _, 0, _, _, _ => by simp
  | [], _, k + 1, _, h, _ => by simp at h
  | _ :: _, [], k + 1, _, _, h => by simp at h
  | x :: r, y :: t, k + 1, h, h1, h2 => by
    simp only [List.take_succ_cons, List.cons.injEq] at h
    obtain ⟨rfl, h⟩ := h
    have := cmpL_skip r t k h (by simpa using h1) (by simpa using h2)
    simp [cmpL, cmpI, this]
theorem cmpI_zero {x y : Int} (h : cmpI x y = 0) : x = y := by
  unfold cmpI at h
  split at h
  · omega
  · split at h
    · omega
    · omega

theorem compareInts_spec {a a' : Option Addr} {n c n' c' : Nat} {L L' : List Int} (w : World) (hL : Sl (encF fI) 1 (Hp.whole w) a n c L) (hL' : Sl (encF fI) 1 (Hp.whole w) a' n' c' L') (hn : n < 1000000000) :
    CallsE Try.prog 85 #[.slice a n c, .slice a' n' c'] w (RetV w (.int .i64 (cmpL L L'))) := by
  have hlen := hL.len
  have hlen' := hL'.len
  refine enter (X := cx 36) (cxg _) (args := [.slice a n c, .slice a' n' c']) [.tmp 4] Try.func85 rfl rfl rfl rfl rfl ?_
  refine NeedL.mk Nat (fun k => [(0, .v (.slice a n c)), (1, .v (.slice a' n' c')), (9, .v (.slice a n c)), (10, .v (.int .i64 n)), (11, .v (.int .i64 k))]) (fun _ => [.hp (Hp.whole w)])
    (fun k => k ≤ n ∧ k ≤ n' ∧ L.take k = L'.take k) (fun k => n - k) 0 ⟨Nat.zero_le _, Nat.zero_le _, rfl⟩ (Ent.mk (fun _ _ h => h) rfl rfl) ?_
  rintro k ⟨hk, hk', ho⟩
  have hsk := cmpL_skip L L' k ho (by omega) (by omega)
  refine bsplitd (fun hlt => ?_) (fun hge => ?_)
  · have hlt' : k < L.length := by omega
    refine idx (cxg _) (e := 3) rfl hL k rfl hlt' (fun b o cs hcs hR hcell => ?_)
    subst hR
    refine ld1 (cxg _) (i := 0) rfl (hcell 0 _ rfl) rfl ?_
    refine bsplitd (fun hb => ?_) (fun hb => ?_)
    · refine ⟨[], ⟨?_, rfl⟩, fun w' h => h⟩
      rw [hsk, List.drop_eq_getElem_cons hlt', List.drop_of_length_le (show L'.length ≤ k by omega)]
      rfl
    · have hlt2 : k < L'.length := by omega
      refine idx (cxg _) (e := 3) rfl hL' k rfl hlt2 (fun b o cs hcs hR hcell => ?_)
      subst hR
      refine ld1 (cxg _) (i := 0) rfl (hcell 0 _ rfl) rfl ?_
      refine call (fun w _ => compare_spec _ _ w) ?_
      rintro _ _ ⟨rfl, rfl⟩
      refine bsplitd (fun hb => ?_) (fun hb => ?_)
      · refine ⟨[], ⟨?_, rfl⟩, fun w' h => h⟩
        rw [hsk, List.drop_eq_getElem_cons hlt', List.drop_eq_getElem_cons hlt2]
        simp [cmpL, hb]
      · refine nw (by omega) (by omega) ?_
        exact ⟨k + 1, ⟨by omega, by omega, take_eq_step hlt' hlt2 ho (cmpI_zero (by simpa using hb))⟩, by omega, Ent.mk (fun _ _ h => h) rfl rfl⟩
  · refine bsplitd (fun hb => ?_) (fun hb => ?_)
    · refine ⟨[], ⟨?_, rfl⟩, fun w' h => h⟩
      rw [hsk, List.drop_of_length_le (show L.length ≤ k by omega), List.drop_eq_getElem_cons (show k < L'.length by omega)]
      rfl
    · refine ⟨[], ⟨?_, rfl⟩, fun w' h => h⟩
      rw [hsk, List.drop_of_length_le (show L.length ≤ k by omega), List.drop_of_length_le (show L'.length ≤ k by omega)]
      rfl

/-- the first place where p holds, or -1 -/
def idxBy {α : Type} (p : α → Bool) : List α → Int
  | [] => -1
  | y :: r => if p y then 0 else (if idxBy p r < 0 then -1 else idxBy p r + 1)
theorem idxBy_ge {α : Type} (p : α → Bool) : ∀ L : List α, -1 ≤ idxBy p L
  | [] => by simp [idxBy]
  | y :: r => by have := idxBy_ge p r; simp only [idxBy]; split <;> (try split) <;> omega
theorem idxBy_any {α : Type} (p : α → Bool) : ∀ L : List α, decide (0 ≤ idxBy p L) = L.any p
  | [] => by simp [idxBy]
  | y :: r => by
    have ih := idxBy_any p r
    have hg := idxBy_ge p r
    simp only [idxBy, List.any_cons, ← ih]
    split
    · rename_i h; simp [h]
    · rename_i h
      simp only [h, Bool.false_or]
      split
      · rename_i h2; simp; omega
      · rename_i h2; simp; omega
theorem idxBy_skip {α : Type} (p : α → Bool) : ∀ (L : List α) (k : Nat), (∀ y ∈ L.take k, p y = false) → k ≤ L.length → idxBy p L = if idxBy p (L.drop k) < 0 then -1 else idxBy p (L.drop k) + k
  | L, 0, _, _ => by
    have := idxBy_ge p L
    simp
    omega
  | [], k + 1, _, h => by simp at h
  | y :: r, k + 1, h, hk => by
    have h1 : p y = false := h y (by simp)
    have ih := idxBy_skip p r k (fun z hz => h z (by simp [hz])) (by simpa using hk)
    have hg := idxBy_ge p (r.drop k)
    simp only [idxBy, h1, List.drop_succ_cons]
    rw [ih]
    simp
    split <;> (try split) <;> omega
theorem idxBy_hit {α : Type} (p : α → Bool) (L : List α) (k : Nat) (hk : k < L.length) (h : ∀ y ∈ L.take k, p y = false) (e : p L[k] = true) : idxBy p L = k := by
  rw [idxBy_skip p L k h (Nat.le_of_lt hk), List.drop_eq_getElem_cons hk]
  simp [idxBy, e]
theorem idxBy_none {α : Type} (p : α → Bool) (L : List α) (k : Nat) (hk : L.length ≤ k) (h : ∀ y ∈ L.take k, p y = false) : idxBy p L = -1 := by
  rw [idxBy_skip p L L.length (by rw [List.take_of_length_le (Nat.le_refl _)]; rwa [List.take_of_length_le hk] at h) (Nat.le_refl _)]
  simp [idxBy]

theorem indexFuncInts_spec {a : Option Addr} {n c : Nat} {L : List Int} (g : Nat) (cv : Value) (p : Int → Bool) (w : World) (hL : Sl (encF fI) 1 (Hp.whole w) a n c L) (hn : n < 1000000000)
    (hp : ∀ w', (Hp.whole w).In w' → ∀ x ∈ L, CallsE Try.prog g #[.int .i64 x, cv] w' (RetV w' (.bool (p x)))) :
    CallsE Try.prog 93 #[.slice a n c, .func (.func g) #[] #[cv]] w (RetV w (.int .i64 (idxBy p L))) := by
  have hlen := hL.len
  refine enter (X := cx 19) (cxg _) (args := [.slice a n c, .func (.func g) #[] #[cv]]) [.tmp 4] Try.func93 rfl rfl rfl rfl rfl ?_
  refine NeedL.mk Nat (fun k => [(0, .v (.slice a n c)), (1, .v (.func (.func g) #[] #[cv])), (7, .v (.int .i64 n)), (8, .v (.int .i64 k))]) (fun _ => [.hp (Hp.whole w)])
    (fun k => k ≤ n ∧ ∀ y ∈ L.take k, p y = false) (fun k => n - k) 0 ⟨Nat.zero_le _, by simp⟩ (Ent.mk (fun _ _ h => h) rfl rfl) ?_
  rintro k ⟨hk, ho⟩
  refine bsplitd (fun hlt => ?_) (fun hge => ?_)
  · have hlt' : k < L.length := by omega
    refine idx (cxg _) (e := 3) rfl hL k rfl hlt' (fun b o cs hcs hR hcell => ?_)
    subst hR
    refine ld1 (cxg _) (i := 0) rfl (hcell 0 _ rfl) rfl ?_
    refine callV (.bool (p L[k])) (fun w' hm => hp w' (hm 0 _ rfl) L[k] (List.getElem_mem hlt')) ?_
    refine bsplit (fun hb => ?_) (fun hb => ?_)
    · exact ⟨[], ⟨by rw [idxBy_hit p L k hlt' ho hb], rfl⟩, fun w' h => h.pick [0] rfl rfl⟩
    · refine nw (by omega) (by omega) ?_
      exact ⟨k + 1, ⟨by omega, take_all_step hlt' ho hb⟩, by omega, Ent.mk (fun _ _ h => h) rfl rfl⟩
  · exact ⟨[], ⟨by rw [idxBy_none p L k (by omega) ho], rfl⟩, fun w' h => h.pick [0] rfl rfl⟩

theorem indexFuncEdges_spec {a : Option Addr} {n c : Nat} {L : List (Int × Int)} (g : Nat) (cv : Value) (p : Int × Int → Bool) (w : World) (hL : Sl (encF fE) 2 (Hp.whole w) a n c L) (hn : n < 1000000000)
    (hp : ∀ w', (Hp.whole w).In w' → ∀ x ∈ L, CallsE Try.prog g #[.agg #[.int .i64 x.1, .int .i64 x.2], cv] w' (RetV w' (.bool (p x)))) :
    CallsE Try.prog 99 #[.slice a n c, .func (.func g) #[] #[cv]] w (RetV w (.int .i64 (idxBy p L))) := by
  have hlen := hL.len
  refine enter (X := cx 19) (cxg _) (args := [.slice a n c, .func (.func g) #[] #[cv]]) [.tmp 4] Try.func99 rfl rfl rfl rfl rfl ?_
  refine NeedL.mk Nat (fun k => [(0, .v (.slice a n c)), (1, .v (.func (.func g) #[] #[cv])), (7, .v (.int .i64 n)), (8, .v (.int .i64 k))]) (fun _ => [.hp (Hp.whole w)])
    (fun k => k ≤ n ∧ ∀ y ∈ L.take k, p y = false) (fun k => n - k) 0 ⟨Nat.zero_le _, by simp⟩ (Ent.mk (fun _ _ h => h) rfl rfl) ?_
  rintro k ⟨hk, ho⟩
  refine bsplitd (fun hlt => ?_) (fun hge => ?_)
  · have hlt' : k < L.length := by omega
    refine idx (cxg _) (e := 32) rfl hL k rfl hlt' (fun b o cs hcs hR hcell => ?_)
    subst hR
    refine ldn (cxg _) (i := 0) rfl hcell rfl ?_
    refine callV (.bool (p L[k])) (fun w' hm => hp w' (hm 0 _ rfl) L[k] (List.getElem_mem hlt')) ?_
    refine bsplit (fun hb => ?_) (fun hb => ?_)
    · exact ⟨[], ⟨by rw [idxBy_hit p L k hlt' ho hb], rfl⟩, fun w' h => h.pick [0] rfl rfl⟩
    · refine nw (by omega) (by omega) ?_
      exact ⟨k + 1, ⟨by omega, take_all_step hlt' ho hb⟩, by omega, Ent.mk (fun _ _ h => h) rfl rfl⟩
  · exact ⟨[], ⟨by rw [idxBy_none p L k (by omega) ho], rfl⟩, fun w' h => h.pick [0] rfl rfl⟩

theorem indexFuncRows_spec {a : Option Addr} {n c : Nat} {L : List (List Int)} (g : Nat) (cv : Value) (p : List Int → Bool) (w : World) (hL : Sl (encS (encF fI) 1) 1 (Hp.whole w) a n c L) (hn : n < 1000000000)
    (hp : ∀ w', (Hp.whole w).In w' → ∀ x ∈ L, ∀ a n c, Sl (encF fI) 1 (Hp.whole w') a n c x → CallsE Try.prog g #[.slice a n c, cv] w' (RetV w' (.bool (p x)))) :
    CallsE Try.prog 92 #[.slice a n c, .func (.func g) #[] #[cv]] w (RetV w (.int .i64 (idxBy p L))) := by
  have hlen := hL.len
  refine enter (X := cx 19) (cxg _) (args := [.slice a n c, .func (.func g) #[] #[cv]]) [.tmp 4] Try.func92 rfl rfl rfl rfl rfl ?_
  refine NeedL.mk Nat (fun k => [(0, .v (.slice a n c)), (1, .v (.func (.func g) #[] #[cv])), (7, .v (.int .i64 n)), (8, .v (.int .i64 k))]) (fun _ => [.hp (Hp.whole w)])
    (fun k => k ≤ n ∧ ∀ y ∈ L.take k, p y = false) (fun k => n - k) 0 ⟨Nat.zero_le _, by simp⟩ (Ent.mk (fun _ _ h => h) rfl rfl) ?_
  rintro k ⟨hk, ho⟩
  refine bsplitd (fun hlt => ?_) (fun hge => ?_)
  · have hlt' : k < L.length := by omega
    refine idx (cxg _) (e := 42) rfl hL k rfl hlt' (fun b o cs hcs hR hcell => ?_)
    obtain ⟨a1, n1, c1, rfl, hs1⟩ := hR
    refine ld1 (cxg _) (i := 0) rfl (hcell 0 _ rfl) rfl ?_
    refine callV (.bool (p L[k])) (fun w' hm => hp w' (hm 0 _ rfl) L[k] (List.getElem_mem hlt') _ _ _ (hs1.mono (encF_mono _) (hm 0 _ rfl))) ?_
    refine bsplit (fun hb => ?_) (fun hb => ?_)
    · exact ⟨[], ⟨by rw [idxBy_hit p L k hlt' ho hb], rfl⟩, fun w' h => h.pick [0] rfl rfl⟩
    · refine nw (by omega) (by omega) ?_
      exact ⟨k + 1, ⟨by omega, take_all_step hlt' ho hb⟩, by omega, Ent.mk (fun _ _ h => h) rfl rfl⟩
  · exact ⟨[], ⟨by rw [idxBy_none p L k (by omega) ho], rfl⟩, fun w' h => h.pick [0] rfl rfl⟩

theorem containsFuncInts_spec {a : Option Addr} {n c : Nat} {L : List Int} (g : Nat) (cv : Value) (p : Int → Bool) (w : World) (hL : Sl (encF fI) 1 (Hp.whole w) a n c L) (hn : n < 1000000000)
    (hp : ∀ w', (Hp.whole w).In w' → ∀ x ∈ L, CallsE Try.prog g #[.int .i64 x, cv] w' (RetV w' (.bool (p x)))) :
    CallsE Try.prog 42 #[.slice a n c, .func (.func g) #[] #[cv]] w (RetV w (.bool (L.any p))) := by
  refine enter (X := cx 9) (cxg _) (args := [.slice a n c, .func (.func g) #[] #[cv]]) [.tmp 4] Try.func42 rfl rfl rfl rfl rfl ?_
  refine call (fun w' hm => indexFuncInts_spec g cv p w' (hL.mono (encF_mono _) (hm 0 _ rfl)) hn (fun w2 h2 => hp w2 (h2.le (hm 0 _ rfl)))) ?_
  rintro _ _ ⟨rfl, rfl⟩
  exact ⟨[], ⟨by rw [← idxBy_any], rfl⟩, fun w' h => h⟩
theorem containsFuncEdges_spec {a : Option Addr} {n c : Nat} {L : List (Int × Int)} (g : Nat) (cv : Value) (p : Int × Int → Bool) (w : World) (hL : Sl (encF fE) 2 (Hp.whole w) a n c L) (hn : n < 1000000000)
    (hp : ∀ w', (Hp.whole w).In w' → ∀ x ∈ L, CallsE Try.prog g #[.agg #[.int .i64 x.1, .int .i64 x.2], cv] w' (RetV w' (.bool (p x)))) :
    CallsE Try.prog 58 #[.slice a n c, .func (.func g) #[] #[cv]] w (RetV w (.bool (L.any p))) := by
  refine enter (X := cx 9) (cxg _) (args := [.slice a n c, .func (.func g) #[] #[cv]]) [.tmp 4] Try.func58 rfl rfl rfl rfl rfl ?_
  refine call (fun w' hm => indexFuncEdges_spec g cv p w' (hL.mono (encF_mono _) (hm 0 _ rfl)) hn (fun w2 h2 => hp w2 (h2.le (hm 0 _ rfl)))) ?_
  rintro _ _ ⟨rfl, rfl⟩
  exact ⟨[], ⟨by rw [← idxBy_any], rfl⟩, fun w' h => h⟩
theorem containsFuncRows_spec {a : Option Addr} {n c : Nat} {L : List (List Int)} (g : Nat) (cv : Value) (p : List Int → Bool) (w : World) (hL : Sl (encS (encF fI) 1) 1 (Hp.whole w) a n c L) (hn : n < 1000000000)
    (hp : ∀ w', (Hp.whole w).In w' → ∀ x ∈ L, ∀ a n c, Sl (encF fI) 1 (Hp.whole w') a n c x → CallsE Try.prog g #[.slice a n c, cv] w' (RetV w' (.bool (p x)))) :
    CallsE Try.prog 40 #[.slice a n c, .func (.func g) #[] #[cv]] w (RetV w (.bool (L.any p))) := by
  refine enter (X := cx 9) (cxg _) (args := [.slice a n c, .func (.func g) #[] #[cv]]) [.tmp 4] Try.func40 rfl rfl rfl rfl rfl ?_
  refine call (fun w' hm => indexFuncRows_spec g cv p w' (hL.mono (encS_mono (encF_mono _) 1) (hm 0 _ rfl)) hn (fun w2 h2 => hp w2 (h2.le (hm 0 _ rfl)))) ?_
  rintro _ _ ⟨rfl, rfl⟩
  exact ⟨[], ⟨by rw [← idxBy_any], rfl⟩, fun w' h => h⟩
end Go.Proofs.Ytdjhgcpmipglfaa
