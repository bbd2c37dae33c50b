/- Parts of one proof, joined: Wa, Wb, Wc, Wd, We, Wf. No condition of its own. -/
import Derived.Test.YtnlkffccobdbjaaGreatXK
namespace Go.Proofs.YtnlkffccobdbjaaGreat
open Go Go.RowKit Go.Dw
theorem first_all {f : Nat → Int} {n : Nat} (h : (firstE f n).getD 0 = 0) : ∀ j, j < n → f j = 0 := by
  intro j hj
  rcases Classical.em (∀ i, i < n → f i = 0) with h1 | h1
  · exact h1 j hj
  · exfalso
    have : ∃ i, i < n ∧ f i ≠ 0 ∧ ∀ m, m < i → f m = 0 := by
      have hex : ∃ i, i < n ∧ f i ≠ 0 := by
        rcases Classical.em (∃ i, i < n ∧ f i ≠ 0) with h2 | h2
        · exact h2
        · exact absurd (fun i hi => Decidable.byContradiction fun hne => h2 ⟨i, hi, hne⟩) h1
      clear h1 hj h
      have key : ∀ b, (∃ i, i < b ∧ i < n ∧ f i ≠ 0) → ∃ i, i < n ∧ f i ≠ 0 ∧ ∀ m, m < i → f m = 0 := by
        intro b
        induction b with
        | zero => rintro ⟨i, hi, _⟩; omega
        | succ b ih =>
          rintro ⟨i, hi, hin, hne⟩
          rcases Classical.em (∃ i, i < b ∧ i < n ∧ f i ≠ 0) with h2 | h2
          · exact ih h2
          · refine ⟨i, hin, hne, fun m hm => Decidable.byContradiction fun hx => h2 ⟨m, by omega, by omega, hx⟩⟩
      obtain ⟨i, hi, hne⟩ := hex
      exact key n ⟨i, hi, hi, hne⟩
    obtain ⟨i, hi, hne, hall⟩ := this
    rw [firstE_hit hi hall hne] at h
    exact hne h
theorem task_af {TT : List Tk} {i : Nat} (hi : i < TT.length) (h : taskE TT i = 0) : ∀ x ∈ TT[i].af, 0 ≤ x ∧ x < (TT.length : Int) := by
  have htd : TT.getD i default = TT[i] := by rw [List.getD_eq_getElem?_getD, List.getElem?_eq_getElem hi]; rfl
  unfold taskE at h
  rw [htd] at h
  dsimp only at h
  split at h
  · cases h
  split at h
  · cases h
  split at h
  · cases h
  split at h
  · cases h
  intro x hx
  obtain ⟨k, hk, rfl⟩ := List.mem_iff_getElem.1 hx
  have := first_all h k hk
  unfold afE at this
  rw [List.getElem?_eq_getElem hk] at this
  dsimp only at this
  split at this
  · cases this
  · omega
set_option maxRecDepth 10000 in
theorem taskCheck_spec {a a' : Option Addr} {n c n' c' : Nat} {TT : List Tk} {SS : List Sn} (w : World) (hT : Sl encT 4 (Hp.whole w) a n c TT) (hS : Sl encN 2 (Hp.whole w) a' n' c' SS) (hn : TT.length < 1000) (hn' : SS.length < 1000) (ha : ∀ t ∈ TT, t.af.length < 1000) (ha' : ∀ t ∈ SS, t.ts.length < 1000) :
    CallsE Tryz.prog 58 #[sv a n c a' n' c'] w (RetV w (.int .i64 (shopE TT SS))) := by
  have hlen := hT.len
  have hlen' := hS.len
  obtain ⟨Z, hZ⟩ : ∃ Z, Z = shopE TT SS := ⟨_, rfl⟩
  have hE := hZ
  unfold shopE at hE
  rw [← hZ]
  refine enterY (X := cx 69) (cxg _) (args := [.agg #[.slice a n c, .slice a' n' c']]) [.tmp 2] Tryz.func58 rfl rfl rfl rfl rfl ?_
  intro b1
  refine bsplitd (fun h1 => ?_) (fun h1 => ?_)
  · exact ⟨[], ⟨by rw [hE, if_pos (by omega)], rfl⟩, fun w' h => h.pick [0] rfl rfl⟩
  refine bsplitd (fun h2 => ?_) (fun h2 => ?_)
  · exact ⟨[], ⟨by rw [hE, if_pos (by omega)], rfl⟩, fun w' h => h.pick [0] rfl rfl⟩
  rw [if_neg (by omega)] at hE
  refine NeedL.mk Nat (fun k => [(1, .bx 1 0), (22, .v (.int .i64 n)), (23, .v (.int .i64 k))]) (fun _ => [.hp (Hp.whole w), .box b1 [.slice a n c, .slice a' n' c'] 25])
    (fun k => k ≤ n ∧ ∀ j, j < k → taskE TT j = 0) (fun k => n - k) 0 ⟨Nat.zero_le _, fun j hj => by omega⟩ (Ent.mk (fun _ _ h => h) rfl rfl) ?_
  rintro k ⟨hk, ho⟩
  refine bsplitd (fun hlt => ?_) (fun hge => ?_)
  · have hkT : k < TT.length := by omega
    obtain ⟨e, he⟩ : ∃ e, e = taskE TT k := ⟨_, rfl⟩
    have kT : ∀ w' : World, Sl encT 4 (Hp.whole w') a n c TT → CallsE Tryz.prog 100 #[sv a n c a' n' c', .int .i64 k] w' (RetV w' (.int .i64 e)) := fun w' h => by
      rw [he]; exact taskTask_spec k w' h hkT hn ha
    refine callV _ (fun w' hm => kT w' (hT.mono encT_mono (hm 0 _ rfl))) ?_
    refine bsplitd (fun h => ?_) (fun h => ?_)
    · rw [he] at h
      rw [firstE_hit hkT ho h] at hE
      exact ⟨[], ⟨by rw [hE, he], rfl⟩, fun w' h => h.pick [0] rfl rfl⟩
    · refine nw (by omega) (by omega) ?_
      exact ⟨k + 1, ⟨by omega, fun j hj => by
        rcases Nat.lt_or_ge j k with h3 | h3
        · exact ho j h3
        · have : j = k := by omega
          subst this; rw [← he]; exact Decidable.not_not.1 h⟩, by omega, Ent.mk (fun _ _ h => h) rfl rfl⟩
  have hall : ∀ j, j < TT.length → taskE TT j = 0 := fun j hj => ho j (by omega)
  rw [firstE_none hall] at hE
  dsimp only at hE
  clear ho
  refine NeedD.by_order (cxg _) (.take 0 <| .take 3 <| .take 4 <| .take 5 <| .run 1 <| .take 2 <| .take 6 <| .done) (by kernel_rfl) ?_
  refine call (fun w' hm => taskOrder_spec w' (hT.mono encT_mono (hm 0 _ rfl)) hn (fun t ht => ⟨ha t ht, by
    obtain ⟨i, hi, rfl⟩ := List.mem_iff_getElem.1 ht
    exact task_af hi (hall i hi)⟩)) ?_
  rintro _ _ ⟨oO, rfl, rfl, hoO⟩
  have lO := hoO.len
  rw [show (natL (ordF TT)).length = (ordF TT).length by unfold natL; rw [List.length_map]] at lO
  refine ⟨(by repeat first | exact trivial | refine ⟨.inl rfl, ?_⟩ | refine ⟨.inr rfl, ?_⟩), ?_⟩
  refine bsplitd (fun h3 => ?_) (fun h3 => ?_)
  · rw [if_pos (by omega)] at hE
    exact ⟨[], ⟨by rw [hE], rfl⟩, fun w' h => h.pick [0] rfl rfl⟩
  rw [if_neg (by omega)] at hE
  clear hoO lO h3
  refine NeedL.mk Nat (fun k => [(1, .bx 1 0), (42, .v (.int .i64 n')), (43, .v (.int .i64 k))]) (fun _ => [.hp (Hp.whole w), .box b1 [.slice a n c, .slice a' n' c'] 25])
    (fun k => k ≤ n' ∧ ∀ j, j < k → statE SS j = 0) (fun k => n' - k) 0 ⟨Nat.zero_le _, fun j hj => by omega⟩ (Ent.mk (fun _ _ h => h.pick [0, 1] rfl rfl) rfl rfl) ?_
  rintro k2 ⟨hk2, ho2⟩
  refine bsplitd (fun hlt => ?_) (fun hge => ?_)
  · have hkS : k2 < SS.length := by omega
    obtain ⟨e, he⟩ : ∃ e, e = statE SS k2 := ⟨_, rfl⟩
    have kS : ∀ w' : World, Sl encN 2 (Hp.whole w') a' n' c' SS → CallsE Tryz.prog 102 #[sv a n c a' n' c', .int .i64 k2] w' (RetV w' (.int .i64 e)) := fun w' h => by
      rw [he]; exact taskStation_spec k2 w' h hkS hn' ha'
    refine callV _ (fun w' hm => kS w' (hS.mono encN_mono (hm 0 _ rfl))) ?_
    refine bsplitd (fun h => ?_) (fun h => ?_)
    · rw [he] at h
      rw [firstE_hit hkS ho2 h] at hE
      exact ⟨[], ⟨by rw [hE, he], rfl⟩, fun w' h => h.pick [0] rfl rfl⟩
    · refine nw (by omega) (by omega) ?_
      exact ⟨k2 + 1, ⟨by omega, fun j hj => by
        rcases Nat.lt_or_ge j k2 with h3 | h3
        · exact ho2 j h3
        · have : j = k2 := by omega
          subst this; rw [← he]; exact Decidable.not_not.1 h⟩, by omega, Ent.mk (fun _ _ h => h) rfl rfl⟩
  rw [firstE_none fun j hj => ho2 j (by omega)] at hE
  dsimp only at hE
  clear ho2
  refine call (fun w' hm => taskTools_spec w' (hS.mono encN_mono (hm 0 _ rfl)) hn' ha') ?_
  rintro _ _ ⟨bm, hm, KS, os, rfl, rfl, hom, hks, hpos⟩
  refine NeedL.mk Nat (fun k => [(1, .bx 1 0), (7, .v (.map (some bm))), (56, .v (.slice a n c)), (57, .v (.int .i64 n)), (58, .v (.int .i64 k))]) (fun _ => [.hp (Hp.whole w), .box b1 [.slice a n c, .slice a' n' c'] 25, .hp hm])
    (fun k => k ≤ n ∧ ∀ t ∈ TT.take k, SS.any (canS t.tl) = true) (fun k => n - k) 0 ⟨Nat.zero_le _, fun t ht => by simp at ht⟩ (Ent.mk (fun _ _ h => h) rfl rfl) ?_
  rintro k3 ⟨hk3, ho3⟩
  refine bsplitd (fun hlt => ?_) (fun hge => ?_)
  · have hkT : k3 < TT.length := by omega
    obtain ⟨t, ht⟩ : ∃ t, t = TT[k3] := ⟨_, rfl⟩
    refine idx (cxg _) (e := 64) rfl hT k3 rfl hkT (fun b9 o9 cs hcs hR hcell => ?_)
    rw [← ht] at hR
    obtain ⟨a3, n3, c3, rfl, hs3⟩ := hR
    refine ldn (cxg _) (i := 0) rfl hcell rfl ?_
    intro b8
    refine lookMS (i := 2) Tryz.underlying123 Tryz.underlying9 (fun _ => rfl) rfl hom t.tl ?_
    cases hp : posK t.tl KS with
    | none =>
      have hnk := posK_none.1 hp
      rw [if_pos (List.any_eq_true.2 ⟨t, by rw [ht]; exact List.getElem_mem hkT, by
        cases hq : SS.any (canS t.tl) with
        | false => rfl
        | true => exact absurd ((hks t.tl).2 hq) hnk⟩)] at hE
      exact ⟨[], ⟨by rw [hE], rfl⟩, fun w' h => h.pick [0] rfl rfl⟩
    | some j =>
      obtain ⟨hj, hjk⟩ := posK_some hp
      have hjo : j < os.length := by have := hom.1; omega
      have hgd : os.getD j Os.nil = os[j] := by rw [List.getD_eq_getElem?_getD, List.getElem?_eq_getElem hjo]; rfl
      have hp1 := hpos os[j] (List.getElem_mem hjo)
      dsimp only
      rw [hgd]
      refine dfalse (by omega) ?_
      refine nw (by omega) (by omega) ?_
      refine ⟨k3 + 1, ⟨by omega, fun s hs => ?_⟩, by omega, Ent.mk (fun _ _ h => h.pick [0, 1, 2] rfl rfl) rfl rfl⟩
      rw [List.take_succ_eq_append_getElem hkT, List.mem_append, List.mem_singleton] at hs
      rcases hs with hs | hs
      · exact ho3 s hs
      · rw [hs, ← ht, ← hks, ← hjk]; exact List.getElem_mem hj
  · rw [List.take_of_length_le (by omega)] at ho3
    rw [if_neg (fun h => by
      obtain ⟨t, ht, hq⟩ := List.any_eq_true.1 h
      rw [ho3 t ht] at hq; cases hq)] at hE
    exact ⟨[], ⟨by rw [hE], rfl⟩, fun w' h => h.pick [0] rfl rfl⟩
end Go.Proofs.YtnlkffccobdbjaaGreat
namespace Go.Proofs.YtnlkffccobdbjaaGreat
open Go Go.RowKit Go.Dw
section
variable {P : Program} {s : List Ch}
theorem qMax {tys : Array TypeId} {ty : Nat} {x y : Int} {q : TV → List Ch → Prop} (h : q (.v (.int .i64 (max x y))) s) : NeedE P s (Builtin.max_ tys ty #[.int .i64 x, .int .i64 y]) q := by
  refine ⟨fun w0 w hok => ⟨_, _, w, s, ?_, hok, Keep.refl s, rfl, h⟩⟩
  simp [Builtin.max_, Builtin.max2, Int.max_def]
  split <;> split <;> (try rfl) <;> (congr 1; omega)
end
def revK (L : List Int) (i : Nat) : List Int := (List.range L.length).map fun p => if p < i ∨ L.length ≤ p + i then L.getD (L.length - 1 - p) 0 else L.getD p 0
theorem revK_len (L : List Int) (i : Nat) : (revK L i).length = L.length := by unfold revK; simp
theorem revK_get {L : List Int} {i p : Nat} (h : p < (revK L i).length) : (revK L i)[p] = if p < i ∨ L.length ≤ p + i then L.getD (L.length - 1 - p) 0 else L.getD p 0 := by
  have hp : p < L.length := by rw [revK_len] at h; exact h
  have : (revK L i)[p]? = some (if p < i ∨ L.length ≤ p + i then L.getD (L.length - 1 - p) 0 else L.getD p 0) := by unfold revK; rw [List.getElem?_map, List.getElem?_range hp]; rfl
  rw [List.getElem?_eq_getElem h] at this
  exact Option.some.inj this
theorem revK_zero (L : List Int) : revK L 0 = L := by
  apply List.ext_getElem (revK_len _ _)
  intro p h1 h2
  rw [revK_get h1, if_neg (by omega), List.getD_eq_getElem?_getD, List.getElem?_eq_getElem h2]; rfl
theorem revK_end {L : List Int} {i : Nat} (h : L.length ≤ 2 * i + 1) : revK L i = L.reverse := by
  apply List.ext_getElem (by rw [revK_len, List.length_reverse])
  intro p h1 h2
  have hp : p < L.length := by rw [revK_len] at h1; exact h1
  rw [revK_get h1, List.getElem_reverse]
  have e : L.getD (L.length - 1 - p) 0 = L[L.length - 1 - p] := by rw [List.getD_eq_getElem?_getD, List.getElem?_eq_getElem (by omega)]; rfl
  split
  · exact e
  · have : p = L.length - 1 - p := by omega
    rw [← e, ← this]
theorem revK_step {L : List Int} {i j : Nat} (hij : i < j) (hj : i + j + 1 = L.length) {x y : Int} (hx : x = (revK L i).getD j 0) (hy : y = (revK L i).getD i 0) : ((revK L i).set i x).set j y = revK L (i + 1) := by
  have gd : ∀ p, p < L.length → (revK L i).getD p 0 = if p < i ∨ L.length ≤ p + i then L.getD (L.length - 1 - p) 0 else L.getD p 0 := fun p hp => by
    have h : p < (revK L i).length := by rw [revK_len]; exact hp
    rw [List.getD_eq_getElem?_getD, List.getElem?_eq_getElem h, Option.getD_some, revK_get h]
  apply List.ext_getElem (by rw [List.length_set, List.length_set, revK_len, revK_len])
  intro p h1 h2
  have hp : p < L.length := by rw [revK_len] at h2; exact h2
  rw [List.getElem_set, revK_get h2]
  split
  · rename_i e
    subst e
    rw [hy, gd i (by omega), if_neg (by omega), if_pos (by omega), show L.length - 1 - j = i by omega]
  · rename_i e
    rw [List.getElem_set]
    split
    · rename_i e2
      subst e2
      rw [hx, gd j (by omega), if_neg (by omega), if_pos (by omega), show L.length - 1 - i = j by omega]
    · rename_i e2
      have h3 : p < (revK L i).length := by rw [revK_len]; exact hp
      rw [revK_get h3]
      by_cases h : p < i ∨ L.length ≤ p + i
      · rw [if_pos h, if_pos (by omega)]
      · rw [if_neg h, if_neg (by omega)]
set_option maxRecDepth 10000 in
theorem reverseInts_spec {o : Dw.Os} {L : List Int} (w : World) (hin : o.h.In w) (ho : OwnO fI 3 1 o L) (hl : L.length < 1000000) :
    CallsE Tryz.prog 121 #[o.v] w (RetM w o.h fun v h' cs => v = .tuple #[] ∧ cs = [] ∧ OwnO fI 3 1 ⟨o.a, o.n, o.c, h'⟩ L.reverse) := by
  have hn := ho.len
  refine enterM (X := cx 28) (cxg _) (args := [o.v]) hin [] Tryz.func121 rfl rfl rfl rfl rfl ?_
  obtain ⟨c0, hc0⟩ : ∃ c0, c0 = (Hp.whole w).minus o.h := ⟨_, rfl⟩
  rw [← hc0]
  refine nw (by omega) (by omega) ?_
  refine NeedL.mk (Nat × Dw.Os × Int) (fun g => [(0, .v o.v), (2, .v (.int .i64 g.1)), (3, .v (.int .i64 g.2.2))]) (fun g => [.hp c0, .hp g.2.1.h])
    (fun g => (2 * g.1 ≤ o.n + 1 ∧ g.2.2 = (o.n : Int) - 1 - g.1) ∧ (g.2.1.a = o.a ∧ g.2.1.n = o.n ∧ g.2.1.c = o.c) ∧ OwnO fI 3 1 g.2.1 (revK L g.1)) (fun g => o.n - g.1) (0, o, (o.n : Int) - 1) ⟨⟨by dsimp only; omega, by dsimp only; omega⟩, ⟨rfl, rfl, rfl⟩, by dsimp only; rw [revK_zero]; exact ho⟩ (Ent.mk (fun _ _ h => h) rfl rfl) ?_
  rintro ⟨i, o1, jj⟩ ⟨⟨hi, hjj⟩, ⟨e1, e2, e3⟩, ho1⟩
  dsimp only at *
  obtain ⟨oa, on, oc, h1⟩ := o1
  simp only at e1 e2 e3
  subst e1 e2 e3
  have hrl := revK_len L i
  refine bsplitd (fun hlt => ?_) (fun hge => ?_)
  · obtain ⟨j, hj⟩ : ∃ j : Nat, j = o.n - 1 - i := ⟨_, rfl⟩
    have hij : i < j := by omega
    have hjl : j < (revK L i).length := by omega
    have hil : i < (revK L i).length := by omega
    have gi : (revK L i).getD i 0 = (revK L i)[i] := by rw [List.getD_eq_getElem?_getD, List.getElem?_eq_getElem hil]; rfl
    have gj : (revK L i).getD j 0 = (revK L i)[j] := by rw [List.getD_eq_getElem?_getD, List.getElem?_eq_getElem hjl]; rfl
    have hst := revK_step hij (by omega) gj.symm gi.symm
    obtain ⟨x, hx⟩ : ∃ x, x = (revK L i)[j] := ⟨_, rfl⟩
    obtain ⟨y, hy⟩ : ∃ y, y = (revK L i)[i] := ⟨_, rfl⟩
    refine NeedD.cut Dw.Os (fun g => [(0, .v o.v), (2, .v (.int .i64 i)), (3, .v (.int .i64 jj))]) (fun g => [.hp c0, .hp g.h]) (fun g => (g.a = o.a ∧ g.n = o.n ∧ g.c = o.c) ∧ OwnO fI 3 1 g (revK L (i + 1))) (NeedD.by_order0 (cxg _) (.take 0 <| .take 1 <| .take 2 <| .take 3 <| .take 4 <| .take 5 <| .take 6 <| .take 8 <| .take 9 <| .take 10 <| .two 7 (.run 11 <| .take 12 <| .run 13 <| .run 14 <| .run 15 <| .done) 11 (.run 7 <| .take 12 <| .run 13 <| .run 14 <| .run 15 <| .done)) (by kernel_rfl) (subL_blank _ 1) ?_) ?_
    · refine oidx1 (o := ⟨o.a, o.n, o.c, h1⟩) (cxg _) (e := 3) rfl rfl ho1 j (by omega) hjl fun b8 hb8 => ?_
      refine oidx1 (o := ⟨o.a, o.n, o.c, h1⟩) (cxg _) (e := 3) rfl rfl ho1 i rfl hil fun b9 hb9 => ?_
      constructor
      · refine old (o := ⟨o.a, o.n, o.c, h1⟩) (g := fun x : Int => .int .i64 x) (fun _ => rfl) (cxg _) (i := 1) rfl hb8 ho1 hjl rfl ?_
        refine ⟨(by repeat first | exact trivial | refine ⟨.inl rfl, ?_⟩ | refine ⟨.inr rfl, ?_⟩), ?_⟩
        refine old (o := ⟨o.a, o.n, o.c, h1⟩) (g := fun x : Int => .int .i64 x) (fun _ => rfl) (cxg _) (i := 1) rfl hb9 ho1 hil rfl ?_
        refine ⟨(by repeat first | exact trivial | refine ⟨.inl rfl, ?_⟩ | refine ⟨.inr rfl, ?_⟩), ?_⟩
        rw [← hx, ← hy]
        refine oidx1 (o := ⟨o.a, o.n, o.c, h1⟩) (cxg _) (e := 3) rfl rfl ho1 i rfl hil fun b7 hb7 => ?_
        refine osto (o := ⟨o.a, o.n, o.c, h1⟩) (g := fun x : Int => .int .i64 x) (fun _ => rfl) (cxg _) (i := 1) rfl hb7 ho1 hil rfl rfl x rfl rfl rfl fun o2 f1 f2 f3 ho2 => ?_
        refine ⟨(by repeat first | exact trivial | refine ⟨.inl rfl, ?_⟩ | refine ⟨.inr rfl, ?_⟩), ?_⟩
        obtain ⟨oa, on, oc, h2⟩ := o2
        simp only at f1 f2 f3
        subst f1 f2 f3
        refine oidx1 (o := ⟨o.a, o.n, o.c, h2⟩) (cxg _) (e := 3) rfl rfl ho2 j (by omega) (by rw [List.length_set]; exact hjl) fun b6 hb6 => ?_
        refine osto (o := ⟨o.a, o.n, o.c, h2⟩) (g := fun x : Int => .int .i64 x) (fun _ => rfl) (cxg _) (i := 1) rfl hb6 ho2 (by rw [List.length_set]; exact hjl) rfl rfl y rfl rfl rfl fun o3 f1 f2 f3 ho3 => ?_
        rw [hx, hy, hst] at ho3
        exact ⟨o3, ⟨⟨f1, f2, f3⟩, ho3⟩, Ent.mk (fun _ _ h => h) rfl rfl⟩
      · refine old (o := ⟨o.a, o.n, o.c, h1⟩) (g := fun x : Int => .int .i64 x) (fun _ => rfl) (cxg _) (i := 1) rfl hb9 ho1 hil rfl ?_
        refine ⟨(by repeat first | exact trivial | refine ⟨.inl rfl, ?_⟩ | refine ⟨.inr rfl, ?_⟩), ?_⟩
        refine old (o := ⟨o.a, o.n, o.c, h1⟩) (g := fun x : Int => .int .i64 x) (fun _ => rfl) (cxg _) (i := 1) rfl hb8 ho1 hjl rfl ?_
        refine ⟨(by repeat first | exact trivial | refine ⟨.inl rfl, ?_⟩ | refine ⟨.inr rfl, ?_⟩), ?_⟩
        rw [← hx, ← hy]
        refine oidx1 (o := ⟨o.a, o.n, o.c, h1⟩) (cxg _) (e := 3) rfl rfl ho1 i rfl hil fun b7 hb7 => ?_
        refine osto (o := ⟨o.a, o.n, o.c, h1⟩) (g := fun x : Int => .int .i64 x) (fun _ => rfl) (cxg _) (i := 1) rfl hb7 ho1 hil rfl rfl x rfl rfl rfl fun o2 f1 f2 f3 ho2 => ?_
        refine ⟨(by repeat first | exact trivial | refine ⟨.inl rfl, ?_⟩ | refine ⟨.inr rfl, ?_⟩), ?_⟩
        obtain ⟨oa, on, oc, h2⟩ := o2
        simp only at f1 f2 f3
        subst f1 f2 f3
        refine oidx1 (o := ⟨o.a, o.n, o.c, h2⟩) (cxg _) (e := 3) rfl rfl ho2 j (by omega) (by rw [List.length_set]; exact hjl) fun b6 hb6 => ?_
        refine osto (o := ⟨o.a, o.n, o.c, h2⟩) (g := fun x : Int => .int .i64 x) (fun _ => rfl) (cxg _) (i := 1) rfl hb6 ho2 (by rw [List.length_set]; exact hjl) rfl rfl y rfl rfl rfl fun o3 f1 f2 f3 ho3 => ?_
        rw [hx, hy, hst] at ho3
        exact ⟨o3, ⟨⟨f1, f2, f3⟩, ho3⟩, Ent.mk (fun _ _ h => h) rfl rfl⟩
    rintro o3 ⟨⟨e1, e2, e3⟩, ho3⟩ _
    dsimp only
    refine nw (by omega) (by omega) ?_
    refine nw (by omega) (by omega) ?_
    exact ⟨(i + 1, o3, jj - 1), ⟨⟨by dsimp only; omega, by dsimp only; omega⟩, ⟨e1, e2, e3⟩, ho3⟩, by dsimp only; omega, Ent.mk (fun _ _ h => h) rfl rfl⟩
  · rw [revK_end (by omega)] at ho1
    exact ⟨h1, [], ⟨rfl, rfl, ho1⟩, fun w' h => h⟩
def mxF (L : List Int) : Int := (L.drop 1).foldl max (L.getD 0 0)
theorem maxInts_spec {a : Option Addr} {n c : Nat} {L : List Int} (w : World) (hL : Sl (encF fI) 1 (Hp.whole w) a n c L) (h0 : 0 < L.length) (hl : L.length < 1000000) :
    CallsE Tryz.prog 93 #[.slice a n c] w (RetV w (.int .i64 (mxF L))) := by
  have hn := hL.len
  refine enter (X := cx 25) (cxg _) (args := [.slice a n c]) [.tmp 2] Tryz.func93 rfl rfl rfl rfl rfl ?_
  refine dfalse (by omega) ?_
  refine idx (cxg _) (e := 3) rfl hL 0 rfl h0 (fun b9 o9 cs hcs hR hcell => ?_)
  subst hR
  refine ld1 (cxg _) (i := 0) rfl (hcell 0 _ rfl) rfl ?_
  have g0 : L.getD 0 0 = L[0] := by rw [List.getD_eq_getElem?_getD, List.getElem?_eq_getElem h0]; rfl
  refine NeedL.mk (Nat × Int) (fun g => [(0, .v (.slice a n c)), (3, .v (.int .i64 g.2)), (4, .v (.int .i64 g.1))]) (fun _ => [.hp (Hp.whole w)])
    (fun g => 1 ≤ g.1 ∧ g.1 ≤ n ∧ g.2 = ((L.take g.1).drop 1).foldl max (L.getD 0 0)) (fun g => n - g.1) (1, L[0]) ⟨Nat.le_refl _, by omega, by dsimp only; rw [g0]; simp [List.drop_take]⟩ (Ent.mk (fun _ _ h => h) rfl rfl) ?_
  rintro ⟨k, m⟩ ⟨hk1, hk, hm⟩
  dsimp only at *
  refine bsplitd (fun hlt => ?_) (fun hge => ?_)
  · have hkl : k < L.length := by omega
    refine idx (cxg _) (e := 3) rfl hL k rfl hkl (fun b9 o9 cs hcs hR hcell => ?_)
    subst hR
    refine ld1 (cxg _) (i := 0) rfl (hcell 0 _ rfl) rfl ?_
    refine qMax ?_
    refine nw (by omega) (by omega) ?_
    have e : ((L.take (k + 1)).drop 1).foldl max (L.getD 0 0) = max (((L.take k).drop 1).foldl max (L.getD 0 0)) L[k] := by
      rw [List.take_succ_eq_append_getElem hkl, List.drop_append_of_le_length (by simp; omega), List.foldl_append]; rfl
    exact ⟨(k + 1, max m L[k]), ⟨by dsimp only; omega, by dsimp only; omega, by dsimp only; rw [e, hm]⟩, by dsimp only; omega, Ent.mk (fun _ _ h => h) rfl rfl⟩
  · have e : mxF L = ((L.take k).drop 1).foldl max (L.getD 0 0) := by unfold mxF; rw [List.take_of_length_le (by omega)]
    exact ⟨[], ⟨by rw [e, hm], rfl⟩, fun w' h => h⟩
end Go.Proofs.YtnlkffccobdbjaaGreat
namespace Go.Proofs.YtnlkffccobdbjaaGreat
open Go Go.RowKit Go.Dw
structure Fit (TT : List Tk) : Prop where
  n : TT.length ≤ 24
  du : ∀ t ∈ TT, 1 ≤ t.du ∧ t.du ≤ 1048576
  al : ∀ t ∈ TT, t.af.length < 1000
  ar : ∀ t ∈ TT, ∀ x ∈ t.af, 0 ≤ x ∧ x < (TT.length : Int)
def tlA (D : List Int) (i : Nat) (k : Int) : List Int := D.set k.toNat (max (D.getD k.toNat 0) (D.getD i 0))
def tlS (TT : List Tk) (D : List Int) (i : Nat) : List Int := (TT.getD i default).af.foldl (fun D k => tlA D i k) (D.set i (D.getD i 0 + (TT.getD i default).du))
def tailsF (TT : List Tk) : List Int := (ordF TT).reverse.foldl (tlS TT) (List.replicate TT.length 0)
def Bd (N : Nat) (D : List Int) (m : Int) : Prop := D.length = N ∧ ∀ i, i < N → 0 ≤ D.getD i 0 ∧ D.getD i 0 ≤ m
theorem getD_set {D : List Int} {i j : Nat} {x : Int} (hi : i < D.length) : (D.set i x).getD j 0 = if i = j then x else D.getD j 0 := by
  rw [List.getD_eq_getElem?_getD, List.getD_eq_getElem?_getD]
  by_cases h : i = j
  · subst h; rw [if_pos rfl, List.getElem?_set_self hi]; rfl
  · rw [if_neg h, List.getElem?_set_ne h]
theorem Bd.set {N : Nat} {D : List Int} {m : Int} (h : Bd N D m) {i : Nat} (hi : i < N) {x : Int} (hx : 0 ≤ x ∧ x ≤ m) : Bd N (D.set i x) m := by
  refine ⟨by rw [List.length_set]; exact h.1, fun j hj => ?_⟩
  rw [getD_set (by rw [h.1]; exact hi)]
  split
  · exact hx
  · exact h.2 j hj
theorem Bd.up {N : Nat} {D : List Int} {m m' : Int} (h : Bd N D m) (hm : m ≤ m') : Bd N D m' := ⟨h.1, fun i hi => ⟨(h.2 i hi).1, Int.le_trans (h.2 i hi).2 hm⟩⟩
theorem Bd.tlA {N : Nat} {D : List Int} {m : Int} (h : Bd N D m) {i : Nat} (hi : i < N) {k : Int} (hk : 0 ≤ k ∧ k < N) : Bd N (tlA D i k) m :=
  h.set (by omega) (by have := h.2 k.toNat (by omega); have := h.2 i hi; omega)
theorem Bd.fold {N : Nat} {m : Int} {i : Nat} (hi : i < N) : ∀ {A : List Int} {D : List Int}, Bd N D m → (∀ k ∈ A, 0 ≤ k ∧ k < (N : Int)) → Bd N (A.foldl (fun D k => Go.Proofs.YtnlkffccobdbjaaGreat.tlA D i k) D) m
  | [], _, h, _ => h
  | k :: A, D, h, hA => by
    show Bd N (A.foldl (fun D k => Go.Proofs.YtnlkffccobdbjaaGreat.tlA D i k) (Go.Proofs.YtnlkffccobdbjaaGreat.tlA D i k)) m
    exact Bd.fold hi (h.tlA hi (hA k (by simp))) fun x hx => hA x (by simp [hx])
theorem Bd.tlS {TT : List Tk} (hF : Fit TT) {D : List Int} {m : Int} (h : Bd TT.length D m) {i : Nat} (hi : i < TT.length) : Bd TT.length (tlS TT D i) (m + 1048576) := by
  have htd : TT.getD i default = TT[i] := by rw [List.getD_eq_getElem?_getD, List.getElem?_eq_getElem hi]; rfl
  have ht := List.getElem_mem hi
  have hd := hF.du _ ht
  unfold Go.Proofs.YtnlkffccobdbjaaGreat.tlS
  rw [htd]
  exact Bd.fold hi ((h.up (by omega)).set hi (by have := h.2 i hi; omega)) (hF.ar _ ht)
theorem Bd.zero (N : Nat) : Bd N (List.replicate N 0) 0 := ⟨List.length_replicate, fun i hi => by rw [List.getD_eq_getElem?_getD, List.getElem?_replicate, if_pos hi]; simp⟩
theorem Bd.all {TT : List Tk} (hF : Fit TT) : ∀ {L : List Nat} {D : List Int} {m : Int}, Bd TT.length D m → (∀ i ∈ L, i < TT.length) → Bd TT.length (L.foldl (Go.Proofs.YtnlkffccobdbjaaGreat.tlS TT) D) (m + 1048576 * L.length)
  | [], _, _, h, _ => h.up (by simp)
  | i :: L, D, m, h, hL => (Bd.all hF (h.tlS hF (hL i (by simp))) fun x hx => hL x (by simp [hx])).up (by simp; omega)
theorem ordF_lt {TT : List Tk} : ∀ i ∈ ordF TT, i < TT.length := (ordT_fine TT TT.length).2.1
theorem ordF_le (TT : List Tk) : (ordF TT).length ≤ TT.length := (ordT_fine TT TT.length).2.2
set_option maxRecDepth 10000 in
theorem taskTails_spec {a a' : Option Addr} {n c n' c' : Nat} {TT : List Tk} (w : World) (hT : Sl encT 4 (Hp.whole w) a n c TT) (hF : Fit TT) :
    CallsE Tryz.prog 92 #[sv a n c a' n' c'] w (Ret w fun v cs => ∃ o : Dw.Os, v = o.v ∧ cs = [.hp o.h] ∧ OwnO fI 3 1 o (tailsF TT)) := by
  have hlen := hT.len
  have hN := hF.n
  refine enter (X := cx 61) (cxg _) (args := [.agg #[.slice a n c, .slice a' n' c']]) [.tmp 2] Tryz.func92 rfl rfl rfl rfl rfl ?_
  intro b1
  refine mkO (f := fI) (cxg _) (e := 3) rfl TT.length 0 rfl (by omega) (by omega) rfl (by omega) fun o0 ho0n ho0 => ?_
  refine call (fun w' hm => taskOrder_spec w' (hT.mono encT_mono (hm 0 _ rfl)) (by omega) (fun t ht => ⟨hF.al t ht, hF.ar t ht⟩)) ?_
  rintro _ _ ⟨oL, rfl, rfl, hoL⟩
  have hol := ordF_le TT
  have hLl : (natL (ordF TT)).length = (ordF TT).length := by unfold natL; rw [List.length_map]
  refine callM (i := 3) rfl (fun w' hm => reverseInts_spec w' (hm 3 _ rfl) hoL (by omega)) ?_
  rintro _ h2 _ ⟨rfl, rfl, hoR⟩
  obtain ⟨RL, hRL⟩ : ∃ RL, RL = (ordF TT).reverse := ⟨_, rfl⟩
  have hrev : (natL (ordF TT)).reverse = natL RL := by unfold natL; rw [hRL, List.map_reverse]
  rw [hrev] at hoR
  have hRl : (natL RL).length = RL.length := by unfold natL; rw [List.length_map]
  have hRlt : ∀ i ∈ RL, i < TT.length := fun i hi => ordF_lt i (by rw [hRL] at hi; exact List.mem_reverse.1 hi)
  have hRle : RL.length ≤ 24 := by rw [hRL, List.length_reverse]; omega
  have sR := OwnO.sl (f := fI) (fun _ => rfl) (by decide) hoR
  have lR := sR.len
  dsimp only at lR
  refine NeedL.mk (Nat × Dw.Os) (fun g => [(1, .bx 1 0), (3, .v g.2.v), (17, .v oL.v), (18, .v (.int .i64 oL.n)), (19, .v (.int .i64 g.1))]) (fun g => [.hp (Hp.whole w), .box b1 [.slice a n c, .slice a' n' c'] 25, .hp g.2.h, .hp h2])
    (fun g => g.1 ≤ oL.n ∧ OwnO fI 3 1 g.2 ((RL.take g.1).foldl (tlS TT) (List.replicate TT.length 0))) (fun g => oL.n - g.1) (0, o0) ⟨Nat.zero_le _, ho0⟩ (Ent.mk (fun _ _ h => h) rfl rfl) ?_
  rintro ⟨p, oT⟩ ⟨hp, hoT⟩
  dsimp only at *
  refine bsplitd (fun hlt => ?_) (fun hge => ?_)
  · have hpR : p < RL.length := by omega
    have hpn : p < (natL RL).length := by omega
    obtain ⟨i, hi⟩ : ∃ i, i = RL[p] := ⟨_, rfl⟩
    have hiN : i < TT.length := hRlt _ (by rw [hi]; exact List.getElem_mem hpR)
    have hni : (natL RL)[p] = (i : Int) := by
      have : (natL RL)[p]? = some (i : Int) := by unfold natL; rw [List.getElem?_map, List.getElem?_eq_getElem hpR, ← hi]; rfl
      rw [List.getElem?_eq_getElem hpn] at this
      exact Option.some.inj this
    obtain ⟨t, ht⟩ : ∃ t, t = TT[i] := ⟨_, rfl⟩
    have htm : t ∈ TT := by rw [ht]; exact List.getElem_mem hiN
    have htd : TT.getD i default = t := by rw [List.getD_eq_getElem?_getD, List.getElem?_eq_getElem hiN, ht]; rfl
    obtain ⟨D, hD⟩ : ∃ D, D = (RL.take p).foldl (tlS TT) (List.replicate TT.length 0) := ⟨_, rfl⟩
    have hB : Bd TT.length D (1048576 * p) := by
      have := Bd.all hF (L := RL.take p) (Bd.zero TT.length) fun x hx => hRlt x (List.mem_of_mem_take hx)
      rw [← hD, List.length_take] at this
      exact this.up (by omega)
    have hst : (RL.take (p + 1)).foldl (tlS TT) (List.replicate TT.length 0) = tlS TT D i := by
      rw [List.take_succ_eq_append_getElem hpR, List.foldl_append, ← hD, ← hi]; rfl
    rw [← hD] at hoT
    have hDi := hB.2 i hiN
    have hDl : i < D.length := by rw [hB.1]; exact hiN
    have gDi : D.getD i 0 = D[i] := by rw [List.getD_eq_getElem?_getD, List.getElem?_eq_getElem hDl]; rfl
    have hdu := hF.du t htm
    have hal := hF.al t htm
    have har := hF.ar t htm
    refine idx (cxg _) (e := 3) rfl sR p rfl hpn (fun b9 o9 cs hcs hR hcell => ?_)
    rw [hni] at hR
    subst hR
    refine ld1 (cxg _) (i := 3) rfl (hcell 0 _ rfl) rfl ?_
    refine NeedD.cut Dw.Os (fun g => [(1, .bx 1 0), (3, .v g.v), (6, .v (.int .i64 i)), (17, .v oL.v), (18, .v (.int .i64 oL.n)), (19, .v (.int .i64 p))]) (fun g => [.hp (Hp.whole w), .box b1 [.slice a n c, .slice a' n' c'] 25, .hp g.h, .hp h2]) (fun g => OwnO fI 3 1 g (D.set i (D.getD i 0 + t.du))) (NeedD.by_order0 (cxg _) (.take 0 <| .take 1 <| .take 2 <| .take 4 <| .take 5 <| .take 6 <| .take 7 <| .take 8 <| .take 9 <| .run 3 <| .take 10 <| .take 11 <| .run 12 <| .done) (by kernel_rfl) (subL_blank _ 2) ?_) ?_
    · refine oidx1 (cxg _) (e := 3) rfl rfl hoT i rfl hDl fun b8 hb8 => ?_
      refine idx (cxg _) (e := 64) rfl hT i rfl hiN (fun b9 o9 cs hcs hR hcell => ?_)
      rw [← ht] at hR
      obtain ⟨a3, n3, c3, rfl, hs3⟩ := hR
      refine ld1 (cxg _) (i := 0) rfl (hcell 1 _ rfl) rfl ?_
      refine old (g := fun x : Int => .int .i64 x) (fun _ => rfl) (cxg _) (i := 2) rfl hb8 hoT hDl rfl ?_
      refine ⟨(by repeat first | exact trivial | refine ⟨.inl rfl, ?_⟩ | refine ⟨.inr rfl, ?_⟩), ?_⟩
      rw [← gDi]
      refine nw (by omega) (by omega) ?_
      refine oidx1 (cxg _) (e := 3) rfl rfl hoT i rfl hDl fun b7 hb7 => ?_
      refine osto (g := fun x : Int => .int .i64 x) (fun _ => rfl) (cxg _) (i := 2) rfl hb7 hoT hDl rfl rfl (D.getD i 0 + t.du) rfl rfl rfl fun o3 f1 f2 f3 ho3 => ?_
      exact ⟨o3, ho3, Ent.mk (fun _ _ h => h) (by dsimp only [Os.v]; rw [f1, f2, f3]; rfl) rfl⟩
    clear hoT
    rintro oT hoT _
    dsimp only
    refine idx (cxg _) (e := 64) rfl hT i rfl hiN (fun b9 o9 cs hcs hR hcell => ?_)
    rw [← ht] at hR
    obtain ⟨a3, n3, c3, rfl, hs3⟩ := hR
    have l3 := hs3.len
    refine ld1 (cxg _) (i := 0) rfl (hcell 3 _ rfl) rfl ?_
    have hB1 : Bd TT.length (D.set i (D.getD i 0 + t.du)) (1048576 * p + 1048576) := (hB.up (by omega)).set hiN (by omega)
    refine NeedL.mk (Nat × Dw.Os) (fun g => [(1, .bx 1 0), (3, .v g.2.v), (6, .v (.int .i64 i)), (17, .v oL.v), (18, .v (.int .i64 oL.n)), (19, .v (.int .i64 p)), (40, .v (.slice a3 n3 c3)), (41, .v (.int .i64 n3)), (42, .v (.int .i64 g.1))]) (fun g => [.hp (Hp.whole w), .box b1 [.slice a n c, .slice a' n' c'] 25, .hp g.2.h, .hp h2])
      (fun g => g.1 ≤ n3 ∧ OwnO fI 3 1 g.2 ((t.af.take g.1).foldl (fun D k => tlA D i k) (D.set i (D.getD i 0 + t.du)))) (fun g => n3 - g.1) (0, oT) ⟨Nat.zero_le _, hoT⟩ (Ent.mk (fun _ _ h => h) rfl rfl) ?_
    clear hoT
    rintro ⟨q, oT⟩ ⟨hq, hoT⟩
    dsimp only at *
    refine bsplitd (fun hltq => ?_) (fun hgeq => ?_)
    · have hqa : q < t.af.length := by omega
      obtain ⟨x, hx⟩ : ∃ x, x = t.af[q] := ⟨_, rfl⟩
      have hxr := har x (by rw [hx]; exact List.getElem_mem hqa)
      obtain ⟨G, hG⟩ : ∃ G, G = (t.af.take q).foldl (fun D k => tlA D i k) (D.set i (D.getD i 0 + t.du)) := ⟨_, rfl⟩
      have hBG : Bd TT.length G (1048576 * p + 1048576) := by rw [hG]; exact hB1.fold hiN fun k hk => har k (List.mem_of_mem_take hk)
      rw [← hG] at hoT
      have hst2 : (t.af.take (q + 1)).foldl (fun D k => tlA D i k) (D.set i (D.getD i 0 + t.du)) = G.set x.toNat (max (G.getD x.toNat 0) (G.getD i 0)) := by
        rw [List.take_succ_eq_append_getElem hqa, List.foldl_append, ← hG, ← hx]; rfl
      have hGi : i < G.length := by rw [hBG.1]; exact hiN
      have hGx : x.toNat < G.length := by rw [hBG.1]; omega
      have gGi : G.getD i 0 = G[i] := by rw [List.getD_eq_getElem?_getD, List.getElem?_eq_getElem hGi]; rfl
      have gGx : G.getD x.toNat 0 = G[x.toNat] := by rw [List.getD_eq_getElem?_getD, List.getElem?_eq_getElem hGx]; rfl
      refine idx (cxg _) (e := 3) rfl hs3 q rfl hqa (fun b9 o9 cs hcs hR hcell => ?_)
      rw [← hx] at hR
      subst hR
      refine ld1 (cxg _) (i := 0) rfl (hcell 0 _ rfl) rfl ?_
      refine NeedD.cut Dw.Os (fun g => [(1, .bx 1 0), (3, .v g.v), (6, .v (.int .i64 i)), (17, .v oL.v), (18, .v (.int .i64 oL.n)), (19, .v (.int .i64 p)), (40, .v (.slice a3 n3 c3)), (41, .v (.int .i64 n3)), (42, .v (.int .i64 q))]) (fun g => [.hp (Hp.whole w), .box b1 [.slice a n c, .slice a' n' c'] 25, .hp g.h, .hp h2]) (fun g => OwnO fI 3 1 g (G.set x.toNat (max (G.getD x.toNat 0) (G.getD i 0)))) (NeedD.by_order0 (cxg _) (.take 0 <| .take 1 <| .take 2 <| .take 3 <| .take 4 <| .take 6 <| .take 7 <| .take 8 <| .two 5 (.run 9 <| .run 10 <| .take 11 <| .run 12 <| .done) 9 (.run 5 <| .run 10 <| .take 11 <| .run 12 <| .done)) (by kernel_rfl) (subL_blank _ 2) ?_) ?_
      · refine oidx1 (cxg _) (e := 3) rfl rfl hoT x.toNat (by omega) hGx fun b8 hb8 => ?_
        refine oidx1 (cxg _) (e := 3) rfl rfl hoT i rfl hGi fun b7 hb7 => ?_
        constructor
        · refine old (g := fun x : Int => .int .i64 x) (fun _ => rfl) (cxg _) (i := 2) rfl hb8 hoT hGx rfl ?_
          refine ⟨(by repeat first | exact trivial | refine ⟨.inl rfl, ?_⟩ | refine ⟨.inr rfl, ?_⟩), ?_⟩
          refine old (g := fun x : Int => .int .i64 x) (fun _ => rfl) (cxg _) (i := 2) rfl hb7 hoT hGi rfl ?_
          refine ⟨(by repeat first | exact trivial | refine ⟨.inl rfl, ?_⟩ | refine ⟨.inr rfl, ?_⟩), ?_⟩
          refine qMax ?_
          rw [← gGi, ← gGx]
          refine ⟨(by repeat first | exact trivial | refine ⟨.inl rfl, ?_⟩ | refine ⟨.inr rfl, ?_⟩), ?_⟩
          refine oidx1 (cxg _) (e := 3) rfl rfl hoT x.toNat (by omega) hGx fun b6 hb6 => ?_
          refine osto (g := fun x : Int => .int .i64 x) (fun _ => rfl) (cxg _) (i := 2) rfl hb6 hoT hGx rfl rfl (max (G.getD x.toNat 0) (G.getD i 0)) rfl rfl rfl fun o3 f1 f2 f3 ho3 => ?_
          exact ⟨o3, ho3, Ent.mk (fun _ _ h => h) (by dsimp only [Os.v]; rw [f1, f2, f3]; rfl) rfl⟩
        · refine old (g := fun x : Int => .int .i64 x) (fun _ => rfl) (cxg _) (i := 2) rfl hb7 hoT hGi rfl ?_
          refine ⟨(by repeat first | exact trivial | refine ⟨.inl rfl, ?_⟩ | refine ⟨.inr rfl, ?_⟩), ?_⟩
          refine old (g := fun x : Int => .int .i64 x) (fun _ => rfl) (cxg _) (i := 2) rfl hb8 hoT hGx rfl ?_
          refine ⟨(by repeat first | exact trivial | refine ⟨.inl rfl, ?_⟩ | refine ⟨.inr rfl, ?_⟩), ?_⟩
          refine qMax ?_
          rw [← gGi, ← gGx]
          refine ⟨(by repeat first | exact trivial | refine ⟨.inl rfl, ?_⟩ | refine ⟨.inr rfl, ?_⟩), ?_⟩
          refine oidx1 (cxg _) (e := 3) rfl rfl hoT x.toNat (by omega) hGx fun b6 hb6 => ?_
          refine osto (g := fun x : Int => .int .i64 x) (fun _ => rfl) (cxg _) (i := 2) rfl hb6 hoT hGx rfl rfl (max (G.getD x.toNat 0) (G.getD i 0)) rfl rfl rfl fun o3 f1 f2 f3 ho3 => ?_
          exact ⟨o3, ho3, Ent.mk (fun _ _ h => h) (by dsimp only [Os.v]; rw [f1, f2, f3]; rfl) rfl⟩
      rintro oU hoU _
      dsimp only
      refine nw (by omega) (by omega) ?_
      exact ⟨(q + 1, oU), ⟨by dsimp only; omega, by dsimp only; rw [hst2]; exact hoU⟩, by dsimp only; omega, Ent.mk (fun _ _ h => h) rfl rfl⟩
    · rw [List.take_of_length_le (by omega)] at hoT
      refine nw (by omega) (by omega) ?_
      refine ⟨(p + 1, oT), ⟨by dsimp only; omega, ?_⟩, by dsimp only; omega, Ent.mk (fun _ _ h => h) rfl rfl⟩
      dsimp only
      rw [hst]
      unfold tlS
      rw [htd]
      exact hoT
  · have hall : (RL.take p).foldl (tlS TT) (List.replicate TT.length 0) = tailsF TT := by
      rw [List.take_of_length_le (by omega), hRL]; rfl
    rw [hall] at hoT
    exact ⟨[.hp oT.h], ⟨oT, rfl, rfl, hoT⟩, fun w' h => h.pick [0, 2] rfl rfl⟩
end Go.Proofs.YtnlkffccobdbjaaGreat
namespace Go.Dw
open Go Go.RowKit
theorem Hp.dj_both {c x y : Hp} (h : c.dj x) (k : c.dj y) : c.dj (x.join y) := fun b => by
  rcases h b with h | h
  · exact .inl h
  · rcases k b with k | k
    · exact .inl k
    · right; unfold Hp.join; rw [h, k]
theorem Hp.both_In {x y : Hp} {w : World} (h : x.In w) (k : y.In w) : (x.join y).In w := fun b o hb => by
  unfold Hp.join at hb
  cases hx : x b with
  | some o' => rw [hx] at hb; cases hb; exact h b _ hx
  | none => rw [hx] at hb; exact k b o hb
theorem Hp.join_nil (x : Hp) : x.join Hp.emp = x := by
  funext b
  unfold Hp.join Hp.emp
  cases x b <;> rfl
theorem Ok.join2 {w0 w : World} {s : List Ch} {i j : Nat} {x y : Hp} (hok : Ok w0 s w) (hij : i ≠ j) (hi : sget s i = some (.hp x)) (hj : sget s j = some (.hp y)) : Ok w0 (sset (sset s i (.hp (x.join y))) j (.hp Hp.emp)) w := by
  have get : ∀ k c, sget (sset (sset s i (.hp (x.join y))) j (.hp Hp.emp)) k = some c → (k = j ∧ c = .hp Hp.emp) ∨ (k = i ∧ c = .hp (x.join y)) ∨ (k ≠ i ∧ k ≠ j ∧ sget s k = some c) := fun k c h => by
    rw [sget_sset, sget_sset] at h
    by_cases h1 : j = k
    · subst h1
      rw [if_pos rfl, if_neg hij, hj] at h
      simp only [Option.map_some, Option.some.injEq] at h
      exact .inl ⟨rfl, h.symm⟩
    · rw [if_neg h1] at h
      by_cases h2 : i = k
      · subst h2
        rw [if_pos rfl, hi] at h
        simp only [Option.map_some, Option.some.injEq] at h
        exact .inr (.inl ⟨rfl, h.symm⟩)
      · rw [if_neg h2] at h
        exact .inr (.inr ⟨fun e => h2 e.symm, fun e => h1 e.symm, h⟩)
  refine ⟨hok.os, hok.tape, hok.output, hok.size, hok.drawn, fun k c hc => ?_, fun k m c d hkm h1 h2 => ?_⟩
  · rcases get k c hc with ⟨_, rfl⟩ | ⟨_, rfl⟩ | ⟨_, _, h⟩
    · exact Hp.emp_in _
    · exact Hp.both_In (hok.mem i _ hi) (hok.mem j _ hj)
    · exact hok.mem k c h
  · rcases get k c h1 with ⟨e1, rfl⟩ | ⟨e1, rfl⟩ | ⟨n1, n2, g1⟩
    · exact fun b => .inl rfl
    · rcases get m d h2 with ⟨e2, rfl⟩ | ⟨e2, rfl⟩ | ⟨m1, m2, g2⟩
      · exact fun b => .inr rfl
      · exact absurd (e1.trans e2.symm) hkm
      · exact (Hp.dj_both ((hok.disj m i _ _ m1 g2 hi)) (hok.disj m j _ _ m2 g2 hj)).symm
    · rcases get m d h2 with ⟨e2, rfl⟩ | ⟨e2, rfl⟩ | ⟨m1, m2, g2⟩
      · exact fun b => .inr rfl
      · exact Hp.dj_both (hok.disj k i _ _ n1 g1 hi) (hok.disj k j _ _ n2 g1 hj)
      · exact hok.disj k m c d hkm g1 g2
theorem callM2 {P : Program} {s : List Ch} {f : Nat} {args : List Value} {q : TV → List Ch → Prop} {i j : Nat} (hij : i ≠ j) {x y : Hp} (hi : sget s i = some (.hp x)) (hj : sget s j = some (.hp y)) {R : Value → Hp → List Ch → Prop}
    (hc : ∀ w0 w, Ok w0 s w → CallsE P f args.toArray w (RetM w (x.join y) R)) (k : ∀ v h' cs, R v h' cs → q (.v v) (sset (sset (sset s i (.hp (x.join y))) j (.hp Hp.emp)) i (.hp h') ++ cs)) : NeedF P s f args q := by
  refine ⟨fun w0 w hok => ⟨(hc w0 w hok).1, (hc w0 w hok).2.mono fun e w' he => ?_⟩⟩
  obtain ⟨v, h', cs, rfl, h1, h2⟩ := he
  have hok2 := hok.join2 hij hi hj
  have hi2 : sget (sset (sset s i (.hp (x.join y))) j (.hp Hp.emp)) i = some (.hp (x.join y)) := by
    rw [sget_sset, if_neg (fun e => hij e.symm), sget_sset, if_pos rfl, hi]; rfl
  have hj2 : sget (sset s i (.hp (x.join y))) j = some (.hp y) := by rw [sget_sset, if_neg hij]; exact hj
  have keep : Keep s (sset (sset s i (.hp (x.join y))) j (.hp Hp.emp)) := (Keep.set hi (fun b cs T e => by cases e)).trans (Keep.set hj2 (fun b cs T e => by cases e))
  exact ⟨v, _, rfl, hok2.callM hi2 h1, (keep.trans (Keep.set hi2 (fun b cs T e => by cases e))).trans (Keep.app _ cs), k v h' cs h2⟩
end Go.Dw
namespace Go.Proofs.YtnlkffccobdbjaaGreat
open Go Go.RowKit Go.Dw
def crtP (TT : List Tk) (T : List Int) (last left : Int) (i : Nat) : Bool := decide (left > 0) && decide (T.getD i 0 = left) && (decide (last < 0) || decide (last ∈ (TT.getD i default).af))
def crtF (TT : List Tk) (T : List Int) : Nat → Int → Int → List Int
  | 0, _, _ => []
  | f + 1, last, left => match (List.range TT.length).find? (crtP TT T last left) with
    | some i => (i : Int) :: crtF TT T f i (left - (TT.getD i default).du)
    | none => []
theorem fnd_hit {n i : Nat} {p : Nat → Bool} (hi : i < n) (h : p i = true) (ho : ∀ j, j < i → p j = false) : (List.range n).find? p = some i := by
  rw [List.find?_range_eq_some]
  exact ⟨h, List.mem_range.2 hi, fun j hj => by rw [ho j hj]; rfl⟩
theorem fnd_none {n : Nat} {p : Nat → Bool} (ho : ∀ j, j < n → p j = false) : (List.range n).find? p = none := by
  rw [List.find?_eq_none]
  intro j hj
  rw [ho j (List.mem_range.1 hj)]; simp
def ptr (b : Nat) : Value := .pointer (some ⟨b, 0, none⟩)
structure RdE (b1 b6 b3 b7 : Nat) (a : Option Addr) (n c : Nat) (a' : Option Addr) (n' c' : Nat) (TT : List Tk) (al : Option Addr) (nl cl : Nat) (T : List Int) (k : Hp) : Prop where
  c1 : k.cell? ⟨b1, 0, none⟩ = some (.slice a n c)
  t : Sl encT 4 k a n c TT
  c6 : k.cell? ⟨b6, 0, none⟩ = some (.slice al nl cl)
  l : Sl (encF fI) 1 k al nl cl T
  c7 : k.cell? ⟨b7, 0, none⟩ = some (.func (.func 94) #[] #[.pointer (some ⟨b1, 0, none⟩), .pointer (some ⟨b6, 0, none⟩), .pointer (some ⟨b3, 0, none⟩), .pointer (some ⟨b7, 0, none⟩)])
theorem RdE.mono {b1 b6 b3 b7 : Nat} {a : Option Addr} {n c : Nat} {a' : Option Addr} {n' c' : Nat} {TT : List Tk} {al : Option Addr} {nl cl : Nat} {T : List Int} {h k : Hp} (r : RdE b1 b6 b3 b7 a n c a' n' c' TT al nl cl T h) (l : h.le k) : RdE b1 b6 b3 b7 a n c a' n' c' TT al nl cl T k :=
  ⟨l.cell r.c1, r.t.mono encT_mono l, l.cell r.c6, r.l.mono (encF_mono _) l, l.cell r.c7⟩
set_option maxRecDepth 10000 in
theorem extend_spec {b1 b6 b3 b7 : Nat} {a : Option Addr} {n c : Nat} {a' : Option Addr} {n' c' : Nat} {TT : List Tk} {al : Option Addr} {nl cl : Nat} {T : List Int} (hF : Fit TT) (hTl : T.length = TT.length) :
    ∀ (f : Nat) (last left : Int) (P : List Int) (ob o : Dw.Os) (w : World), left < f → left ≤ 1000000000 → P.length + f ≤ 2000000000 → ob.a = some ⟨b3, 0, none⟩ ∧ ob.c = 1 → OwnO fV 28 1 ob [o.v] → OwnO fI 3 1 o P → ob.h.dj o.h → (ob.h.join o.h).In w →
      RdE b1 b6 b3 b7 a n c a' n' c' TT al nl cl T ((Hp.whole w).minus (ob.h.join o.h)) →
      CallsE Tryz.prog 94 #[.int .i64 last, .int .i64 left, .pointer (some ⟨b1, 0, none⟩), .pointer (some ⟨b6, 0, none⟩), .pointer (some ⟨b3, 0, none⟩), .pointer (some ⟨b7, 0, none⟩)] w
        (RetM w (ob.h.join o.h) fun v h' cs => v = .tuple #[] ∧ cs = [] ∧ ∃ ob' o' : Dw.Os, (ob'.a = some ⟨b3, 0, none⟩ ∧ ob'.c = 1) ∧ h' = ob'.h.join o'.h ∧ ob'.h.dj o'.h ∧ OwnO fV 28 1 ob' [o'.v] ∧ OwnO fI 3 1 o' (P ++ crtF TT T f last left)) := by
  intro f
  induction f using Nat.strongRecOn with
  | ind f ih =>
  intro last left P ob o w hf hleft hPl ⟨hba, hbc⟩ hob ho hdj hin hRd
  have hNn := hF.n
  refine enterM (X := cx 50) (cxg _) (args := [.int .i64 last, .int .i64 left, .pointer (some ⟨b1, 0, none⟩), .pointer (some ⟨b6, 0, none⟩), .pointer (some ⟨b3, 0, none⟩), .pointer (some ⟨b7, 0, none⟩)]) hin [] Tryz.func94 rfl rfl rfl rfl rfl ?_
  obtain ⟨c0, hc0⟩ : ∃ c0, c0 = (Hp.whole w).minus (ob.h.join o.h) := ⟨_, rfl⟩
  rw [← hc0] at hRd ⊢
  have hT := hRd.t
  have hlen := hT.len
  refine ld1 (cxg _) (i := 0) rfl hRd.c1 rfl ?_
  refine NeedL.mk Nat (fun k => [(0, .v (.int .i64 last)), (1, .v (.int .i64 left)), (2, .v (.pointer (some ⟨b1, 0, none⟩))), (3, .v (.pointer (some ⟨b6, 0, none⟩))), (4, .v (.pointer (some ⟨b3, 0, none⟩))), (5, .v (.pointer (some ⟨b7, 0, none⟩))), (11, .v (.slice a n c)), (12, .v (.int .i64 n)), (13, .v (.int .i64 k))]) (fun _ => [.hp c0, .hp ob.h, .hp o.h])
    (fun k => k ≤ n ∧ ∀ j, j < k → crtP TT T last left j = false) (fun k => n - k) 0 ⟨Nat.zero_le _, fun j hj => by omega⟩ (Ent.mk (fun _ _ h => Ok.part (i := 1) h rfl (Hp.le_join_l _ _) (Hp.le_join_r hdj) hdj) rfl rfl) ?_
  rintro k ⟨hk, hno⟩
  have next : crtP TT T last left k = false → ∀ j, j < k + 1 → crtP TT T last left j = false := fun h j hj => by
    rcases Nat.lt_or_ge j k with h1 | h1
    · exact hno j h1
    · have : j = k := by omega
      subst this; exact h
  refine bsplitd (fun hlt => ?_) (fun hge => ?_)
  · have hkT : k < TT.length := by omega
    obtain ⟨t, ht⟩ : ∃ t, t = TT[k] := ⟨_, rfl⟩
    have htm : t ∈ TT := by rw [ht]; exact List.getElem_mem hkT
    have htd : TT.getD k default = t := by rw [List.getD_eq_getElem?_getD, List.getElem?_eq_getElem hkT, ht]; rfl
    have hkl : k < T.length := by omega
    obtain ⟨x, hx⟩ : ∃ x, x = T[k] := ⟨_, rfl⟩
    have hxd : T.getD k 0 = x := by rw [List.getD_eq_getElem?_getD, List.getElem?_eq_getElem hkl, hx]; rfl
    have hp : crtP TT T last left k = (decide (left > 0) && decide (x = left) && (decide (last < 0) || decide (last ∈ t.af))) := by unfold crtP; rw [htd, hxd]
    have hdu := hF.du t htm
    refine idx (cxg _) (e := 64) rfl hT k rfl hkT (fun b9 o9 cs hcs hR hcell => ?_)
    rw [← ht] at hR
    obtain ⟨a3, n3, c3, rfl, hs3⟩ := hR
    have l3 := hs3.len
    have hal := hF.al t htm
    refine ldn (cxg _) (i := 0) rfl hcell rfl ?_
    intro b9
    refine hideQ (fun _ h => h _ _ ?_)
    refine hideQ (fun q' hq' => ?_)
    refine bsplitd (fun g1 => ?_) (fun g1 => ?_)
    · refine ld1 (cxg _) (i := 0) rfl hRd.c6 rfl ?_
      refine idx (cxg _) (e := 3) rfl hRd.l k rfl hkl (fun b8 o8 cs hcs hR hcell => ?_)
      rw [← hx] at hR
      subst hR
      refine ld1 (cxg _) (i := 0) rfl (hcell 0 _ rfl) rfl ?_
      refine bsplitd (fun g2 => ?_) (fun g2 => ?_)
      · refine bsplitd (fun g3 => ?_) (fun g3 => ?_)
        · refine hq' _ _ ?_
          have hpt : crtP TT T last left k = true := by rw [hp, decide_eq_true g1, decide_eq_true g2, decide_eq_true g3]; rfl
          obtain ⟨f', rfl⟩ : ∃ f', f = f' + 1 := ⟨f - 1, by omega⟩
          have hcr : crtF TT T (f' + 1) last left = (k : Int) :: crtF TT T f' k (left - t.du) := by
            show (match (List.range TT.length).find? (crtP TT T last left) with | some i => (i : Int) :: crtF TT T f' i (left - (TT.getD i default).du) | none => []) = _
            rw [fnd_hit hkT hpt hno]
            dsimp only
            rw [htd]
          refine old (g := fun v : Value => v) (fun _ => rfl) (cxg _) (i := 1) (k := 0) rfl hba hob (Nat.one_pos) rfl ?_
          intro b40
          refine appO (f := fI) (cxg _) (e := 3) rfl (i := 2) rfl ho (j := 4) (k : Int) rfl rfl rfl rfl (by omega) (fun o2 ho2 => ?_)
          refine osto (g := fun v : Value => v) (fun _ => rfl) (cxg _) (i := 1) (k := 0) rfl hba hob (Nat.one_pos) rfl rfl o2.v rfl rfl rfl fun ob2 f1 f2 f3 hob2 => ?_
          refine ld1 (cxg _) (i := 0) rfl hRd.c7 rfl ?_
          refine nw (by omega) (by omega) ?_
          refine callM2 (i := 1) (j := 2) (by decide) rfl rfl (R := fun v h' cs => v = .tuple #[] ∧ cs = [] ∧ ∃ ob' o' : Dw.Os, (ob'.a = some ⟨b3, 0, none⟩ ∧ ob'.c = 1) ∧ h' = ob'.h.join o'.h ∧ ob'.h.dj o'.h ∧ OwnO fV 28 1 ob' [o'.v] ∧ OwnO fI 3 1 o' ((P ++ [(k : Int)]) ++ crtF TT T f' k (left - t.du))) (fun w0 w1 hok => ?_) ?_
          · exact ih f' (by omega) k (left - t.du) (P ++ [(k : Int)]) ob2 o2 w1 (by omega) (by omega) (by simp; omega) ⟨by rw [f1]; exact hba, by rw [f3]; exact hbc⟩ hob2 ho2 (hok.disj 1 2 _ _ (by decide) rfl rfl) (Hp.both_In (hok.mem 1 _ rfl) (hok.mem 2 _ rfl))
              (hRd.mono (Hp.le_minus (hok.mem 0 _ rfl).whole (Hp.dj_both (hok.disj 0 1 _ _ (by decide) rfl rfl) (hok.disj 0 2 _ _ (by decide) rfl rfl))))
          rintro v h' cs ⟨rfl, rfl, ob3, o3, r1, r2, r3, r4, r5⟩
          exact ⟨h', [], ⟨rfl, rfl, ob3, o3, r1, r2, r3, r4, by rw [hcr]; simpa using r5⟩, fun w' h => h.pick [0, 1] rfl rfl⟩
        · refine callV _ (fun w' hm => containsInts_spec last w' (hs3.mono (encF_mono _) (hm 0 _ rfl)) (by omega)) ?_
          refine hq' _ _ ?_
          refine bsplitd (fun g4 => ?_) (fun g4 => ?_)
          · have hpt : crtP TT T last left k = true := by rw [hp, decide_eq_true g1, decide_eq_true g2, decide_eq_true g4, Bool.or_true]; rfl
            obtain ⟨f', rfl⟩ : ∃ f', f = f' + 1 := ⟨f - 1, by omega⟩
            have hcr : crtF TT T (f' + 1) last left = (k : Int) :: crtF TT T f' k (left - t.du) := by
              show (match (List.range TT.length).find? (crtP TT T last left) with | some i => (i : Int) :: crtF TT T f' i (left - (TT.getD i default).du) | none => []) = _
              rw [fnd_hit hkT hpt hno]
              dsimp only
              rw [htd]
            refine old (g := fun v : Value => v) (fun _ => rfl) (cxg _) (i := 1) (k := 0) rfl hba hob (Nat.one_pos) rfl ?_
            intro b40
            refine appO (f := fI) (cxg _) (e := 3) rfl (i := 2) rfl ho (j := 4) (k : Int) rfl rfl rfl rfl (by omega) (fun o2 ho2 => ?_)
            refine osto (g := fun v : Value => v) (fun _ => rfl) (cxg _) (i := 1) (k := 0) rfl hba hob (Nat.one_pos) rfl rfl o2.v rfl rfl rfl fun ob2 f1 f2 f3 hob2 => ?_
            refine ld1 (cxg _) (i := 0) rfl hRd.c7 rfl ?_
            refine nw (by omega) (by omega) ?_
            refine callM2 (i := 1) (j := 2) (by decide) rfl rfl (R := fun v h' cs => v = .tuple #[] ∧ cs = [] ∧ ∃ ob' o' : Dw.Os, (ob'.a = some ⟨b3, 0, none⟩ ∧ ob'.c = 1) ∧ h' = ob'.h.join o'.h ∧ ob'.h.dj o'.h ∧ OwnO fV 28 1 ob' [o'.v] ∧ OwnO fI 3 1 o' ((P ++ [(k : Int)]) ++ crtF TT T f' k (left - t.du))) (fun w0 w1 hok => ?_) ?_
            · exact ih f' (by omega) k (left - t.du) (P ++ [(k : Int)]) ob2 o2 w1 (by omega) (by omega) (by simp; omega) ⟨by rw [f1]; exact hba, by rw [f3]; exact hbc⟩ hob2 ho2 (hok.disj 1 2 _ _ (by decide) rfl rfl) (Hp.both_In (hok.mem 1 _ rfl) (hok.mem 2 _ rfl))
                (hRd.mono (Hp.le_minus (hok.mem 0 _ rfl).whole (Hp.dj_both (hok.disj 0 1 _ _ (by decide) rfl rfl) (hok.disj 0 2 _ _ (by decide) rfl rfl))))
            rintro v h' cs ⟨rfl, rfl, ob3, o3, r1, r2, r3, r4, r5⟩
            exact ⟨h', [], ⟨rfl, rfl, ob3, o3, r1, r2, r3, r4, by rw [hcr]; simpa using r5⟩, fun w' h => h.pick [0, 1] rfl rfl⟩
          · have hpf : crtP TT T last left k = false := by rw [hp, decide_eq_false g3, decide_eq_false g4]; simp
            refine nw (by omega) (by omega) ?_
            exact ⟨k + 1, ⟨by omega, next hpf⟩, by omega, Ent.mk (fun _ _ h => h.pick [0, 1, 2] rfl rfl) rfl rfl⟩
      · refine hq' _ _ ?_
        have hpf : crtP TT T last left k = false := by rw [hp, decide_eq_false g2]; simp
        refine nw (by omega) (by omega) ?_
        exact ⟨k + 1, ⟨by omega, next hpf⟩, by omega, Ent.mk (fun _ _ h => h.pick [0, 1, 2] rfl rfl) rfl rfl⟩
    · refine hq' _ _ ?_
      have hpf : crtP TT T last left k = false := by rw [hp, decide_eq_false g1]; simp
      refine nw (by omega) (by omega) ?_
      exact ⟨k + 1, ⟨by omega, next hpf⟩, by omega, Ent.mk (fun _ _ h => h.pick [0, 1, 2] rfl rfl) rfl rfl⟩
  · have hnil : crtF TT T f last left = [] := by
      cases f with
      | zero => rfl
      | succ f =>
        unfold crtF
        rw [fnd_none fun j hj => hno j (by omega)]
    exact ⟨ob.h.join o.h, [], ⟨rfl, rfl, ob, o, ⟨hba, hbc⟩, rfl, hdj, hob, by rw [hnil, List.append_nil]; exact ho⟩, fun w' h => Ok.join (c := .hp c0) (d := .hp ob.h) (e := .hp o.h) (s := []) h⟩
end Go.Proofs.YtnlkffccobdbjaaGreat
namespace Go.Proofs.YtnlkffccobdbjaaGreat
open Go Go.RowKit Go.Dw
structure Sml (TT : List Tk) (SS : List Sn) : Prop where
  n : TT.length < 1000
  m : SS.length < 1000
  a : ∀ t ∈ TT, t.af.length < 1000
  s : ∀ t ∈ SS, t.ts.length < 1000
theorem first_ne {f : Nat → Int} {n : Nat} {e : Int} (h : firstE f n = some e) : e ≠ 0 := by
  unfold firstE at h
  have := List.find?_some h
  simpa using this
theorem first_zero {f : Nat → Int} {n : Nat} (h : firstE f n = none) : ∀ j, j < n → f j = 0 := first_all (by rw [h]; rfl)
theorem shop_ok {TT : List Tk} {SS : List Sn} (h : shopE TT SS = 0) : TT.length ≤ 24 ∧ SS.length ≤ 8 ∧ (∀ j, j < TT.length → taskE TT j = 0) ∧ TT.length ≤ (ordF TT).length ∧ (∀ j, j < SS.length → statE SS j = 0) ∧ ∀ t ∈ TT, SS.any (canS t.tl) = true := by
  unfold shopE at h
  split at h
  · cases h
  rename_i h1
  split at h
  · rename_i e he; exact absurd h (first_ne he)
  rename_i h2
  split at h
  · cases h
  rename_i h3
  split at h
  · rename_i e he; exact absurd h (first_ne he)
  rename_i h4
  split at h
  · cases h
  rename_i h5
  refine ⟨by omega, by omega, first_zero h2, by omega, first_zero h4, fun t ht => ?_⟩
  cases hq : SS.any (canS t.tl) with
  | true => rfl
  | false => exact absurd (List.any_eq_true.2 ⟨t, ht, by rw [hq]; rfl⟩) h5
theorem task_du {TT : List Tk} {i : Nat} (hi : i < TT.length) (h : taskE TT i = 0) : 1 ≤ TT[i].du ∧ TT[i].du ≤ 1048576 := by
  have htd : TT.getD i default = TT[i] := by rw [List.getD_eq_getElem?_getD, List.getElem?_eq_getElem hi]; rfl
  unfold taskE at h
  rw [htd] at h
  dsimp only at h
  split at h
  · cases h
  split at h
  · cases h
  split at h
  · cases h
  omega
theorem fit_of {TT : List Tk} {SS : List Sn} (hS : Sml TT SS) (h : shopE TT SS = 0) : Fit TT := by
  obtain ⟨h1, _, h2, _⟩ := shop_ok h
  refine ⟨h1, fun t ht => ?_, hS.a, fun t ht => ?_⟩
  · obtain ⟨i, hi, rfl⟩ := List.mem_iff_getElem.1 ht
    exact task_du hi (h2 i hi)
  · obtain ⟨i, hi, rfl⟩ := List.mem_iff_getElem.1 ht
    exact task_af hi (h2 i hi)
def ordTR (TT : List Tk) (SS : List Sn) : List Int := if shopE TT SS = 0 then natL (ordF TT) else []
def taiR (TT : List Tk) (SS : List Sn) : List Int := if shopE TT SS = 0 then tailsF TT else []
theorem chk_spec {a a' : Option Addr} {n c n' c' : Nat} {TT : List Tk} {SS : List Sn} (w : World) (hT : Sl encT 4 (Hp.whole w) a n c TT) (hS : Sl encN 2 (Hp.whole w) a' n' c' SS) (hm : Sml TT SS) :
    CallsE Tryz.prog 58 #[sv a n c a' n' c'] w (RetV w (.int .i64 (shopE TT SS))) := taskCheck_spec w hT hS hm.n hm.m hm.a hm.s
theorem tOrder_spec {a a' : Option Addr} {n c n' c' : Nat} {TT : List Tk} {SS : List Sn} (w : World) (hT : Sl encT 4 (Hp.whole w) a n c TT) (hS : Sl encN 2 (Hp.whole w) a' n' c' SS) (hs : Sml TT SS) :
    CallsE Tryz.prog 96 #[sv a n c a' n' c'] w (RetI w (ordTR TT SS) (shopE TT SS)) := by
  refine enter (X := cx 12) (cxg _) (args := [.agg #[.slice a n c, .slice a' n' c']]) [.tmp 2, .tmp 3] Tryz.func96 rfl rfl rfl rfl rfl ?_
  intro b1
  refine callV _ (fun w' hm => chk_spec w' (hT.mono encT_mono (hm 0 _ rfl)) (hS.mono encN_mono (hm 0 _ rfl)) hs) ?_
  refine bsplitd (fun h => ?_) (fun h => ?_)
  · exact ⟨[.hp Hp.emp], ⟨Os.nil, rfl, rfl, by unfold ordTR; rw [if_neg h]; exact OwnO.nil _ _ _⟩, fun w' h => Ok.emp (s := [.hp (Hp.whole w)]) (h.pick [0] rfl rfl)⟩
  have h0 : shopE TT SS = 0 := Decidable.not_not.1 h
  have hF := fit_of hs h0
  refine call (fun w' hm => taskOrder_spec w' (hT.mono encT_mono (hm 0 _ rfl)) hs.n (fun t ht => ⟨hF.al t ht, hF.ar t ht⟩)) ?_
  rintro _ _ ⟨o, rfl, rfl, ho⟩
  exact ⟨[.hp o.h], ⟨o, by rw [h0], rfl, by unfold ordTR; rw [if_pos h0]; exact ho⟩, fun w' h => h.pick [0, 2] rfl rfl⟩
theorem tTails_spec {a a' : Option Addr} {n c n' c' : Nat} {TT : List Tk} {SS : List Sn} (w : World) (hT : Sl encT 4 (Hp.whole w) a n c TT) (hS : Sl encN 2 (Hp.whole w) a' n' c' SS) (hs : Sml TT SS) :
    CallsE Tryz.prog 64 #[sv a n c a' n' c'] w (RetI w (taiR TT SS) (shopE TT SS)) := by
  refine enter (X := cx 12) (cxg _) (args := [.agg #[.slice a n c, .slice a' n' c']]) [.tmp 2, .tmp 3] Tryz.func64 rfl rfl rfl rfl rfl ?_
  intro b1
  refine callV _ (fun w' hm => chk_spec w' (hT.mono encT_mono (hm 0 _ rfl)) (hS.mono encN_mono (hm 0 _ rfl)) hs) ?_
  refine bsplitd (fun h => ?_) (fun h => ?_)
  · exact ⟨[.hp Hp.emp], ⟨Os.nil, rfl, rfl, by unfold taiR; rw [if_neg h]; exact OwnO.nil _ _ _⟩, fun w' h => Ok.emp (s := [.hp (Hp.whole w)]) (h.pick [0] rfl rfl)⟩
  have h0 : shopE TT SS = 0 := Decidable.not_not.1 h
  have hF := fit_of hs h0
  refine call (fun w' hm => taskTails_spec w' (hT.mono encT_mono (hm 0 _ rfl)) hF) ?_
  rintro _ _ ⟨o, rfl, rfl, ho⟩
  exact ⟨[.hp o.h], ⟨o, by rw [h0], rfl, by unfold taiR; rw [if_pos h0]; exact ho⟩, fun w' h => h.pick [0, 2] rfl rfl⟩
theorem ownBox {T b : Nat} {ob : Dw.Os} {v : Value} (ho : OwnO fV T 1 ob [v]) (ha : ob.a = some ⟨b, 0, none⟩) (hc : ob.c = 1) : (Ch.box b [v] T).h.le ob.h := by
  obtain ⟨h1, h2, h3⟩ := ho
  rcases h3 with ⟨e, _⟩ | ⟨b', arr, g1, g2, g3, g4, g5, g6⟩
  · rw [h1] at e; cases e
  · rw [ha] at g1
    cases g1
    rw [hc] at g5
    have hl : arr.toList.length = 1 := by simpa using g5
    rw [h1] at g6
    have : arr.toList = [v] := by
      rw [List.take_of_length_le (by rw [hl]; exact Nat.le_refl _)] at g6
      exact g6
    have harr : arr = #[v] := by rw [← Array.toArray_toList (xs := arr), this]
    intro k o hk
    simp only [Ch.h, Hp.one] at hk
    split at hk
    · rename_i e; subst e; cases hk; rw [g2, harr]
    · cases hk
theorem tails_len {TT : List Tk} (hF : Fit TT) : (tailsF TT).length = TT.length := (Bd.all hF (L := (ordF TT).reverse) (Bd.zero TT.length) fun x hx => ordF_lt x (List.mem_reverse.1 hx)).1
theorem mx_le {L : List Int} {m : Int} (h : ∀ x ∈ L, x ≤ m) (h0 : 0 < L.length) : mxF L ≤ m := by
  have : ∀ (A : List Int) (x : Int), x ≤ m → (∀ y ∈ A, y ≤ m) → A.foldl max x ≤ m := by
    intro A
    induction A with
    | nil => intro x hx _; exact hx
    | cons y r ih => intro x hx hy; exact ih _ (by have := hy y (by simp); omega) fun z hz => hy z (by simp [hz])
  unfold mxF
  refine this _ _ ?_ fun y hy => h y (List.mem_of_mem_drop hy)
  rw [List.getD_eq_getElem?_getD, List.getElem?_eq_getElem h0]
  exact h _ (List.getElem_mem h0)
theorem tails_le {TT : List Tk} (hF : Fit TT) : ∀ x ∈ tailsF TT, x ≤ 1048576 * 24 := fun x hx => by
  have hB := Bd.all hF (L := (ordF TT).reverse) (Bd.zero TT.length) fun x hx => ordF_lt x (List.mem_reverse.1 hx)
  obtain ⟨i, hi, rfl⟩ := List.mem_iff_getElem.1 hx
  have hi' : i < TT.length := by rw [← tails_len hF]; exact hi
  have := (hB.2 i hi').2
  have e : (tailsF TT).getD i 0 = (tailsF TT)[i] := by rw [List.getD_eq_getElem?_getD, List.getElem?_eq_getElem hi]; rfl
  have hl := ordF_le TT
  have hn := hF.n
  rw [List.length_reverse] at this
  have e2 : ((ordF TT).reverse.foldl (tlS TT) (List.replicate TT.length 0)).getD i 0 = (tailsF TT)[i] := e
  rw [e2] at this
  omega
def crtR (TT : List Tk) (SS : List Sn) : Int × List Int := if shopE TT SS = 0 ∧ 0 < TT.length then (mxF (tailsF TT), crtF TT (tailsF TT) ((mxF (tailsF TT)).toNat + 1) (-1) (mxF (tailsF TT))) else (0, [])
set_option maxRecDepth 10000 in
theorem Critical_spec {a a' : Option Addr} {n c n' c' : Nat} {TT : List Tk} {SS : List Sn} (w : World) (hT : Sl encT 4 (Hp.whole w) a n c TT) (hS : Sl encN 2 (Hp.whole w) a' n' c' SS) (hs : Sml TT SS) :
    CallsE Tryz.prog 48 #[sv a n c a' n' c'] w (Ret w fun v cs => ∃ o : Dw.Os, v = .tuple #[.int .i64 (crtR TT SS).1, o.v, .int .i64 (shopE TT SS)] ∧ cs = [.hp o.h] ∧ OwnO fI 3 1 o (crtR TT SS).2) := by
  have hlen := hT.len
  refine enter (X := cx 27) (cxg _) (args := [.agg #[.slice a n c, .slice a' n' c']]) [.tmp 2, .cell 3 28, .tmp 4] Tryz.func48 rfl rfl rfl rfl rfl ?_
  intro b1 b3
  refine callV _ (fun w' hm => chk_spec w' (hT.mono encT_mono (hm 0 _ rfl)) (hS.mono encN_mono (hm 0 _ rfl)) hs) ?_
  refine bsplitd (fun h => ?_) (fun h => ?_)
  · have e : crtR TT SS = (0, []) := by unfold crtR; rw [if_neg (fun g => h g.1)]
    exact ⟨[.hp Hp.emp], ⟨Os.nil, by rw [e]; rfl, rfl, by rw [e]; exact OwnO.nil _ _ _⟩, fun w' h => Ok.emp (s := [.hp (Hp.whole w)]) (h.pick [0] rfl rfl)⟩
  have h0 : shopE TT SS = 0 := Decidable.not_not.1 h
  have hF := fit_of hs h0
  refine bsplitd (fun hz => ?_) (fun hz => ?_)
  · have e : crtR TT SS = (0, []) := by unfold crtR; rw [if_neg (fun g => by omega)]
    exact ⟨[.hp Hp.emp], ⟨Os.nil, by rw [e, h0]; rfl, rfl, by rw [e]; exact OwnO.nil _ _ _⟩, fun w' h => Ok.emp (s := [.hp (Hp.whole w)]) (h.pick [0] rfl rfl)⟩
  refine call (fun w' hm => taskTails_spec w' (hT.mono encT_mono (hm 0 _ rfl)) hF) ?_
  rintro _ _ ⟨oT, rfl, rfl, hoT⟩
  have sT := OwnO.sl (f := fI) (fun _ => rfl) (by decide) hoT
  have hTl := tails_len hF
  obtain ⟨T, hTd⟩ : ∃ T, T = tailsF TT := ⟨_, rfl⟩
  obtain ⟨m, hm0⟩ : ∃ m, m = mxF T := ⟨_, rfl⟩
  have hcr : crtR TT SS = (m, crtF TT T (m.toNat + 1) (-1) m) := by unfold crtR; rw [if_pos ⟨h0, by omega⟩, ← hTd, ← hm0]
  have hmle : m ≤ 1048576 * 24 := by rw [hm0, hTd]; exact mx_le (tails_le hF) (by omega)
  rw [← hTd] at sT hTl hoT
  intro b6
  refine callV _ (fun w' hm => maxInts_spec w' (sT.mono (encF_mono _) (hm 3 _ rfl)) (by omega) (by have := hF.n; omega)) ?_
  rw [← hm0]
  intro b7
  refine hideQ (fun _ h => h _ _ ?_)
  refine hideQ (fun _ h => h _ _ ?_)
  refine normS [.hp (Hp.whole w), .box b1 [.slice a n c, .slice a' n' c'] 25, .box b3 [.slice none 0 0] 28, .hp oT.h, .box b6 [.slice oT.a oT.n oT.c] 28, .box b7 [.func (.func 94) #[] #[.pointer (some ⟨b1, 0, none⟩), .pointer (some ⟨b6, 0, none⟩), .pointer (some ⟨b3, 0, none⟩), .pointer (some ⟨b7, 0, none⟩)]] 121] rfl ?_
  refine ⟨fun w0 w1 hok => ?_⟩
  have hj : (⟨some ⟨b3, 0, none⟩, 1, 1, (Ch.box b3 [.slice none 0 0] 28).h⟩ : Dw.Os).h.join Os.nil.h = (Ch.box b3 [.slice none 0 0] 28).h := Hp.join_nil _
  have hb0 : OwnO fV 28 1 ⟨some ⟨b3, 0, none⟩, 1, 1, (Ch.box b3 [.slice none 0 0] 28).h⟩ [Os.nil.v] := OwnO.box (fun _ => rfl) [Os.nil.v] rfl rfl (by simp)
  have hc := extend_spec (b1 := b1) (b6 := b6) (b3 := b3) (b7 := b7) (a := a) (n := n) (c := c) (a' := a') (n' := n') (c' := c') (al := oT.a) (nl := oT.n) (cl := oT.c) hF hTl (m.toNat + 1) (-1) m [] ⟨some ⟨b3, 0, none⟩, 1, 1, (Ch.box b3 [.slice none 0 0] 28).h⟩ Os.nil w1
    (by omega) (by omega) (by simp; omega) ⟨rfl, rfl⟩ hb0 (OwnO.nil _ _ _) (fun b => .inr rfl) (by rw [hj]; exact hok.mem 2 _ rfl) (by
      rw [hj]
      exact ⟨(Hp.le_minus (hok.mem 1 _ rfl).whole (hok.disj 1 2 _ _ (by decide) rfl rfl)).cell (by simp [Ch.h, Hp.cell?, Hp.one]), hT.mono encT_mono (Hp.le_minus (hok.mem 0 _ rfl).whole (hok.disj 0 2 _ _ (by decide) rfl rfl)),
        (Hp.le_minus (hok.mem 4 _ rfl).whole (hok.disj 4 2 _ _ (by decide) rfl rfl)).cell (by simp [Ch.h, Hp.cell?, Hp.one]), sT.mono (encF_mono _) (Hp.le_minus (hok.mem 3 _ rfl).whole (hok.disj 3 2 _ _ (by decide) rfl rfl)),
        (Hp.le_minus (hok.mem 5 _ rfl).whole (hok.disj 5 2 _ _ (by decide) rfl rfl)).cell (by simp [Ch.h, Hp.cell?, Hp.one])⟩)
  rw [hj] at hc
  refine ⟨hc.1, hc.2.mono fun e w' he => ?_⟩
  obtain ⟨v, h', cs, rfl, g1, rfl, rfl, ob, o, ⟨r1, r2⟩, rfl, r3, r4, r5⟩ := he
  have ok1 := Ok.same (i := 2) (c := .box b3 [.slice none 0 0] 28) (d := .hp (Ch.box b3 [.slice none 0 0] 28).h) rfl rfl hok
  have ok2 := ok1.callM (i := 2) rfl g1
  have ok3 := Ok.part (i := 2) ok2 rfl ((ownBox r4 r1 r2).trans (Hp.le_join_l _ _)) (Hp.le_join_r r3) ((Hp.djLe r3.symm (ownBox r4 r1 r2)).symm)
  have ok4 := Ok.same (i := 2) (c := .hp (Ch.box b3 [o.v] 28).h) (d := .box b3 [o.v] 28) rfl rfl ok3
  refine ⟨.tuple #[], _, rfl, ok4, (Keep.set (i := 2) (c' := .box b3 [o.v] 28) rfl (fun b cs T e => by cases e; exact ⟨_, _, rfl⟩)).trans (Keep.app _ [.hp o.h]), ?_⟩
  refine NeedD.by_order (cxg _) (.take 0 <| .take 1 <| .take 2 <| .run 3 <| .run 4 <| .done) (by kernel_rfl) ?_
  exact ⟨[.hp o.h], ⟨o, by rw [hcr, h0]; rfl, rfl, by rw [hcr]; simpa using r5⟩, fun w' h => h.pick [0, 6] rfl rfl⟩
end Go.Proofs.YtnlkffccobdbjaaGreat
