/- Contract of the reference's Table: the distances. Its premises are its own. -/
import Derived.Test.YtdjhgcpmipglfaaXE
import Derived.Test.YtdjhgcpmipglfaaYGo
namespace Go.Proofs.Ytdjhgcpmipglfaa
open Go Go.RowKit Go.Dw
/-- the length of the shortest walk of at most s edges -/
def lv (E : List (Int × Int)) (a : Int) (s : Nat) (b : Int) : Option Nat := least (fun t => wlk E t a b) (s + 1)
def midV (E : List (Int × Int)) (a : Int) (s : Nat) (M : List (Int × Int)) (b : Int) : Int := match lv E a s b with
  | some t => t
  | none => if M.any (fun e => decide (e.2 = b) && decide (lv E a s e.1 = some s)) then (s : Int) + 1 else -1
def rowT (N : Nat) (E : List (Int × Int)) (a : Int) (s : Nat) (M : List (Int × Int)) : List Int := (List.range N).map fun b : Nat => midV E a s M b
def tabF (N : Nat) (E : List (Int × Int)) : List (List Int) := (List.range N).map fun a : Nat => (List.range N).map fun b : Nat => dz (dst N E a b)
theorem lv_succ (E : List (Int × Int)) (a : Int) (s : Nat) (b : Int) : lv E a (s + 1) b = match lv E a s b with | some t => some t | none => if wlk E (s + 1) a b then some (s + 1) else none := by
  unfold lv; rw [least]; cases least (fun t => wlk E t a b) (s + 1) <;> rfl
theorem rowT_init (N : Nat) (E : List (Int × Int)) (a : Nat) : rowT N E a 0 [] = ((List.range N).map fun _ => (-1 : Int)).set a 0 := by
  rw [range_set]
  unfold rowT
  refine List.map_congr_left fun b _ => ?_
  have : lv E a 0 b = if b = a then some 0 else none := by
    unfold lv least least wlk
    by_cases h : b = a
    · subst h; simp
    · have : ¬ ((a : Int) = b) := by omega
      simp [h, this]
  unfold midV
  rw [this]
  by_cases h : b = a <;> simp [h]
theorem any_snoc {α : Type} {p : α → Bool} {L : List α} {k : Nat} (hk : k < L.length) : (L.take (k + 1)).any p = ((L.take k).any p || p L[k]) := by
  rw [List.take_succ_eq_append_getElem hk, List.any_append, List.any_cons, List.any_nil, Bool.or_false]
theorem midV_eq {E : List (Int × Int)} {a : Int} {s : Nat} {M : List (Int × Int)} {b : Int} : midV E a s M b = s ↔ lv E a s b = some s := by
  unfold midV
  cases h : lv E a s b with
  | some t => simp only [Option.some.injEq]; omega
  | none =>
    simp only [reduceCtorEq, iff_false]
    split <;> omega
theorem rowT_hit {N : Nat} {E : List (Int × Int)} {a : Int} {s k v : Nat} (hk : k < E.length) (hv : E[k].2 = v) (h1 : midV E a s (E.take k) E[k].1 = s) (h2 : midV E a s (E.take k) v < 0) :
    (rowT N E a s (E.take k)).set v ((s : Int) + 1) = rowT N E a s (E.take (k + 1)) := by
  have h1' := midV_eq.1 h1
  unfold rowT
  rw [range_set]
  refine List.map_congr_left fun b _ => ?_
  by_cases hb : b = v
  · subst hb
    rw [if_pos rfl]
    unfold midV at h2 ⊢
    cases hl : lv E a s b with
    | some t => rw [hl] at h2; dsimp only at h2; omega
    | none =>
      dsimp only
      rw [any_snoc hk, decide_eq_true hv, decide_eq_true h1', Bool.true_and, Bool.or_true, if_pos rfl]
  · rw [if_neg hb]
    have hne : ¬ E[k].2 = (b : Int) := by omega
    unfold midV
    rw [any_snoc hk, decide_eq_false hne, Bool.false_and, Bool.or_false]
theorem rowT_miss {N : Nat} {E : List (Int × Int)} {a : Int} {s k v : Nat} (hk : k < E.length) (hv : E[k].2 = v) (h : ¬ (midV E a s (E.take k) E[k].1 = s ∧ midV E a s (E.take k) v < 0)) :
    rowT N E a s (E.take (k + 1)) = rowT N E a s (E.take k) := by
  unfold rowT
  refine List.map_congr_left fun b _ => ?_
  by_cases hb : b = v
  · subst hb
    by_cases h1 : lv E a s E[k].1 = some s
    · have h2 : ¬ midV E a s (E.take k) b < 0 := fun h3 => h ⟨midV_eq.2 h1, h3⟩
      unfold midV at h2 ⊢
      cases hl : lv E a s b with
      | some t => rfl
      | none =>
        rw [hl] at h2
        dsimp only at h2 ⊢
        rw [any_snoc hk]
        split at h2
        · rename_i h4; rw [h4]; rfl
        · omega
    · unfold midV
      rw [any_snoc hk, decide_eq_false h1, Bool.and_false, Bool.or_false]
  · have hne : ¬ E[k].2 = (b : Int) := by omega
    unfold midV
    rw [any_snoc hk, decide_eq_false hne, Bool.false_and, Bool.or_false]
theorem rowT_pass (N : Nat) (E : List (Int × Int)) (a : Int) (s : Nat) : rowT N E a s E = rowT N E a (s + 1) [] := by
  unfold rowT
  refine List.map_congr_left fun b _ => ?_
  unfold midV
  rw [lv_succ]
  cases hl : lv E a s b with
  | some t => rfl
  | none =>
    dsimp only
    have key : (E.any fun e => decide (e.2 = (b : Int)) && decide (lv E a s e.1 = some s)) = wlk E (s + 1) a b := by
      rw [Bool.eq_iff_iff, wlk_succ]
      simp only [List.any_eq_true, Bool.and_eq_true, decide_eq_true_eq]
      constructor
      · rintro ⟨e, he, h1, h2⟩
        exact ⟨e.1, by rw [← h1]; exact he, (least_some h2).2.1⟩
      · rintro ⟨c, hc, hw⟩
        refine ⟨(c, b), hc, rfl, ?_⟩
        obtain ⟨t, ht⟩ := least_ex (p := fun t => wlk E t a c) (Nat.lt_succ_self s) hw
        have h3 := least_some ht
        have : t = s := by
          refine Classical.byContradiction fun hne => ?_
          have h4 : wlk E (t + 1) a b = true := wlk_succ.2 ⟨c, hc, h3.2.1⟩
          have := least_none hl (t + 1) (by omega)
          rw [h4] at this; cases this
        rw [← this] at ht ⊢
        unfold lv
        exact ht
    rw [key]
    cases wlk E (s + 1) a b <;> simp
theorem rowT_end {N : Nat} {E : List (Int × Int)} (hG : Gr N E) {a : Nat} (ha : a < N) : rowT N E a N [] = (List.range N).map fun b : Nat => dz (dst N E a b) := by
  unfold rowT
  refine List.map_congr_left fun b _ => ?_
  have : lv E a N b = dst N E a b := by
    unfold lv dst
    rw [least]
    cases hl : least (fun t => wlk E t a b) N with
    | some t => rfl
    | none =>
      dsimp only
      cases hw : wlk E N a b with
      | false => rfl
      | true =>
        obtain ⟨t, h1, h2⟩ := wlk_short hG ⟨by omega, by omega⟩ hw
        rw [least_none hl t h1] at h2; cases h2
  unfold midV
  rw [this]
  cases dst N E a b <;> simp [dz]
set_option maxRecDepth 10000 in
theorem Table_spec {a : Option Addr} {n c : Nat} {E : List (Int × Int)} (N : Nat) (w : World) (hL : Sl (encF fE) 2 (Hp.whole w) a n c E) (hG : Gr N E) :
    CallsE Try.prog 79 #[gv N a n c] w (Ret w fun v cs => ∃ a' c' h, v = .slice a' N c' ∧ cs = [.hp h] ∧ Sl (encS (encF fI) 1) 1 h a' N c' (tabF N E)) := by
  have hlen := hL.len
  have hN := hG.hN
  have hEl := hG.len
  have htl : (tabF N E).length = N := by simp [tabF]
  refine enter (X := cx 81) (cxg _) (args := [.agg #[.int .i64 N, .slice a n c]]) [.tmp 2] Try.func79 rfl rfl rfl rfl rfl ?_
  intro b1
  refine NeedL.mkS (Nat × Dw.Os × List Dw.Os × Hp) (fun g => [(1, .bx 1 0), (3, .v g.2.1.v), (4, .v (.int .i64 g.1))]) (fun g => [.hp (Hp.whole w), .box b1 [.int .i64 N, .slice a n c] 35, .hp g.2.1.h, .hp g.2.2.2])
    (fun g => g.1 ≤ N ∧ OwnO Os.row 42 1 g.2.1 g.2.2.1 ∧ Rws fI 3 1 g.2.2.2 g.2.2.1 ((tabF N E).take g.1)) (fun g => N - g.1) (0, Os.nil, [], Hp.emp)
    ⟨Nat.zero_le _, OwnO.nil _ _ _, Rws.nil _ _ _ _⟩ (Ent.mk (fun _ _ h => h.emp.emp) rfl rfl) ?_
  rintro ⟨x, oR, os, H⟩ ⟨hx, hoR, hr⟩ hsat
  dsimp only at *
  have hrl : os.length = x := by rw [hr.len, List.length_take]; omega
  refine bsplitd (fun hlt => ?_) (fun hge => ?_)
  · have hxN : x < N := by omega
    refine mkO (f := fI) (cxg _) (e := 3) rfl N 0 rfl rfl rfl rfl (by omega) fun o ho' ho => ?_
    refine NeedL.mk (Nat × Dw.Os) (fun g => [(1, .bx 1 0), (3, .v oR.v), (4, .v (.int .i64 x)), (5, .v g.2.v), (6, .v (.int .i64 g.1))]) (fun g => [.hp (Hp.whole w), .box b1 [.int .i64 N, .slice a n c] 35, .hp oR.h, .hp H, .hp g.2.h])
      (fun g => g.1 ≤ N ∧ g.2.n = N ∧ OwnO fI 3 1 g.2 ((List.range N).map fun i => if i < g.1 then -1 else 0)) (fun g => N - g.1) (0, o) ⟨Nat.zero_le _, ho', ?_⟩ (Ent.mk (fun _ _ h => h) rfl rfl) ?_
    · dsimp only
      have : ((List.range N).map fun i => if i < 0 then (-1 : Int) else 0) = List.replicate N 0 := by
        apply List.ext_getElem
        · simp
        · intro i h1 h2; simp
      rw [this]; exact ho
    clear ho' ho o
    rintro ⟨y, o⟩ ⟨hy, hon, ho⟩
    dsimp only at *
    refine bsplitd (fun hly => ?_) (fun hgy => ?_)
    · refine oidx1 (cxg _) (e := 3) rfl rfl ho y rfl (by simp; omega) fun b3 hb3 => ?_
      refine osto (g := fun x : Int => .int .i64 x) (fun _ => rfl) (cxg _) (i := 4) rfl hb3 ho (by simp; omega) rfl rfl (-1) rfl rfl rfl fun o3 e1 e2 e3 ho3 => ?_
      refine nw (by omega) (by omega) ?_
      refine ⟨(y + 1, o3), ⟨by dsimp only; omega, by dsimp only; omega, ?_⟩, by dsimp only; omega, Ent.mk (fun _ _ h => h) (by dsimp only [Os.v]; rw [e1, e2, e3]; rfl) rfl⟩
      dsimp only
      rw [range_set] at ho3
      have : ((List.range N).map fun i => if i < y + 1 then (-1 : Int) else 0) = (List.range N).map fun v => if v = y then -1 else if v < y then -1 else 0 := by
        refine List.map_congr_left fun v _ => ?_
        by_cases h : v = y
        · subst h; simp
        · by_cases h2 : v < y
          · rw [if_pos (by omega), if_neg h, if_pos h2]
          · rw [if_neg (by omega), if_neg h, if_neg h2]
      rw [this]; exact ho3
    have hall : ((List.range N).map fun i => if i < y then (-1 : Int) else 0) = (List.range N).map fun _ => (-1 : Int) := by
      refine List.map_congr_left fun v hv => ?_
      rw [if_pos (by have := List.mem_range.1 hv; omega)]
    rw [hall] at ho
    refine oidx1 (cxg _) (e := 3) rfl rfl ho x rfl (by simp; omega) fun b3 hb3 => ?_
    refine osto (g := fun x : Int => .int .i64 x) (fun _ => rfl) (cxg _) (i := 4) rfl hb3 ho (by simp; omega) rfl rfl 0 rfl rfl rfl fun o3 e1 e2 e3 ho3 => ?_
    rw [← rowT_init N E x] at ho3
    refine NeedL.mkS (Nat × Dw.Os) (fun g => [(1, .bx 1 0), (3, .v oR.v), (4, .v (.int .i64 x)), (5, .v g.2.v), (7, .v (.int .i64 (g.1 + 1 : Nat)))]) (fun g => [.hp (Hp.whole w), .box b1 [.int .i64 N, .slice a n c] 35, .hp oR.h, .hp H, .hp g.2.h])
      (fun g => g.1 ≤ N ∧ g.2.n = N ∧ OwnO fI 3 1 g.2 (rowT N E x g.1 [])) (fun g => N - g.1) (0, o3) ⟨Nat.zero_le _, by dsimp only; omega, ho3⟩ (Ent.mk (fun _ _ h => h) (by dsimp only [Os.v]; rw [e1, e2, e3]; rfl) rfl) ?_
    clear ho3 e1 e2 e3 hb3 ho hon o3 o hall hgy hy
    rintro ⟨s, o⟩ ⟨hs, hon, ho⟩ hsat2
    dsimp only at *
    refine bsplitd (fun hls => ?_) (fun hgs => ?_)
    · refine NeedL.mk (Nat × Dw.Os) (fun g => [(1, .bx 1 0), (3, .v oR.v), (4, .v (.int .i64 x)), (5, .v g.2.v), (7, .v (.int .i64 (s + 1 : Nat))), (8, .v (.int .i64 g.1))]) (fun g => [.hp (Hp.whole w), .box b1 [.int .i64 N, .slice a n c] 35, .hp oR.h, .hp H, .hp g.2.h])
        (fun g => g.1 ≤ n ∧ g.2.n = N ∧ OwnO fI 3 1 g.2 (rowT N E x s (E.take g.1))) (fun g => n - g.1) (0, o) ⟨Nat.zero_le _, hon, by dsimp only; exact ho⟩ (Ent.mk (fun _ _ h => h) rfl rfl) ?_
      clear hsat2 ho hon o
      rintro ⟨k, o⟩ ⟨hk, hon, ho⟩
      dsimp only at *
      refine bsplitd (fun hlk => ?_) (fun hgk => ?_)
      · have hk' : k < E.length := by omega
        obtain ⟨r1, r2, r3, r4⟩ := hG.rng _ (List.getElem_mem hk')
        obtain ⟨v1, hv1⟩ : ∃ v : Nat, E[k].1 = v := ⟨_, (Int.toNat_of_nonneg r1).symm⟩
        obtain ⟨v2, hv2⟩ : ∃ v : Nat, E[k].2 = v := ⟨_, (Int.toNat_of_nonneg r3).symm⟩
        have hl1 : v1 < (rowT N E x s (E.take k)).length := by simp [rowT]; omega
        have hl2 : v2 < (rowT N E x s (E.take k)).length := by simp [rowT]; omega
        have hg1 : (rowT N E x s (E.take k))[v1] = midV E x s (E.take k) E[k].1 := by simp [rowT, hv1]
        have hg2 : (rowT N E x s (E.take k))[v2] = midV E x s (E.take k) v2 := by simp [rowT]
        refine hideQ (fun q' hq' => ?_)
        refine idx (cxg _) (e := 85) rfl hL k rfl hk' (fun b o9 cs hcs hR hcell => ?_)
        subst hR
        refine idxA (cxg _) rfl rfl rfl 0 rfl rfl ?_
        refine ld1 (cxg _) (i := 0) rfl (hcell 0 _ rfl) rfl ?_
        refine oidx1 (cxg _) (e := 3) rfl rfl ho v1 hv1 hl1 fun b3 hb3 => ?_
        refine old (g := fun x : Int => .int .i64 x) (fun _ => rfl) (cxg _) (i := 4) rfl hb3 ho hl1 rfl ?_
        refine nw (by omega) (by omega) ?_
        refine bsplitd (fun h1 => ?_) (fun h1 => ?_)
        · have h1' : midV E x s (E.take k) E[k].1 = s := by rw [← hg1]; omega
          refine idx (cxg _) (e := 85) rfl hL k rfl hk' (fun b o9 cs hcs hR hcell => ?_)
          subst hR
          refine idxA (cxg _) rfl rfl rfl 1 rfl rfl ?_
          refine ld1 (cxg _) (i := 0) rfl (hcell 1 _ rfl) rfl ?_
          refine oidx1 (cxg _) (e := 3) rfl rfl ho v2 hv2 hl2 fun b3 hb3 => ?_
          refine old (g := fun x : Int => .int .i64 x) (fun _ => rfl) (cxg _) (i := 4) rfl hb3 ho hl2 rfl ?_
          refine hq' _ _ ?_
          refine bsplitd (fun h2 => ?_) (fun h2 => ?_)
          · refine hideQ (fun q' hq' => ?_)
            refine idx (cxg _) (e := 85) rfl hL k rfl hk' (fun b o9 cs hcs hR hcell => ?_)
            subst hR
            refine idxA (cxg _) rfl rfl rfl 1 rfl rfl ?_
            refine ld1 (cxg _) (i := 0) rfl (hcell 1 _ rfl) rfl ?_
            refine oidx1 (cxg _) (e := 3) rfl rfl ho v2 hv2 hl2 fun b3 hb3 => ?_
            refine osto (g := fun x : Int => .int .i64 x) (fun _ => rfl) (cxg _) (i := 4) rfl hb3 ho hl2 rfl rfl ((s + 1 : Nat) : Int) rfl rfl rfl fun o3 e1 e2 e3 ho3 => ?_
            refine hq' _ _ ?_
            refine nw (by omega) (by omega) ?_
            refine ⟨(k + 1, o3), ⟨by dsimp only; omega, by dsimp only; omega, ?_⟩, by dsimp only; omega, Ent.mk (fun _ _ h => h) (by dsimp only [Os.v]; rw [e1, e2, e3]; rfl) rfl⟩
            dsimp only
            rw [← rowT_hit hk' hv2 h1' (by rw [← hg2]; exact h2)]
            exact ho3
          · refine nw (by omega) (by omega) ?_
            refine ⟨(k + 1, o), ⟨by dsimp only; omega, hon, ?_⟩, by dsimp only; omega, Ent.mk (fun _ _ h => h) rfl rfl⟩
            dsimp only
            rw [rowT_miss hk' hv2 (fun h => h2 (by rw [hg2]; exact h.2))]; exact ho
        · refine hq' _ _ ?_
          refine nw (by omega) (by omega) ?_
          refine ⟨(k + 1, o), ⟨by dsimp only; omega, hon, ?_⟩, by dsimp only; omega, Ent.mk (fun _ _ h => h) rfl rfl⟩
          dsimp only
          rw [rowT_miss hk' hv2 (fun h => h1 (by rw [hg1, h.1]; omega))]; exact ho
      · rw [List.take_of_length_le (by omega), rowT_pass] at ho
        refine nw (by omega) (by omega) ?_
        exact ⟨(s + 1, o), ⟨by dsimp only; omega, hon, ho⟩, by dsimp only; omega, Ent.mk (fun _ _ h => h) rfl rfl⟩
    · rw [show s = N by omega, rowT_end hG hxN] at ho
      intro b4
      refine appO (f := Os.row) (cxg _) (e := 42) rfl (i := 2) rfl hoR (j := 5) o rfl rfl rfl rfl (by omega) (fun oR' hoR' => ?_)
      refine nw (by omega) (by omega) ?_
      refine ⟨(x + 1, oR', os ++ [o], H.join o.h), ⟨by dsimp only; omega, hoR', ?_⟩, by dsimp only; omega, Ent.mk (fun _ _ h => Ok.pick [0, 2, 3, 1] rfl rfl (Ok.join (c := .hp (Hp.whole w)) (Ok.pick [0, 3, 4, 1, 2] rfl rfl h))) rfl rfl⟩
      dsimp only
      rw [List.take_succ_eq_append_getElem (by omega)]
      have : (tabF N E)[x] = (List.range N).map fun b : Nat => dz (dst N E x b) := by simp [tabF]
      rw [this]
      exact hr.push ho (hsat2.dj 3 4 rfl rfl (by decide))
  · rw [List.take_of_length_le (by omega)] at hr
    have hh := Rws.sl (f := fI) (fun _ => rfl) (by decide) hr hoR (hsat.dj 2 3 rfl rfl (by decide))
    have hn : oR.n = N := by rw [hoR.len]; omega
    exact ⟨[.hp (oR.h.join H)], ⟨oR.a, oR.c, _, by rw [← hn]; rfl, rfl, by rw [hn] at hh; exact hh⟩, fun w' h => Ok.join (c := .hp (Hp.whole w)) (d := .hp oR.h) (e := .hp H) (s := []) (h.pick [0, 2, 3] rfl rfl)⟩
end Go.Proofs.Ytdjhgcpmipglfaa
