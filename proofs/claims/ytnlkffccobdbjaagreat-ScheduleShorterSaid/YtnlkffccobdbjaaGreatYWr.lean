/- Contracts of schedule.Makespan, List, Priority. Their premises are their own. -/
import Derived.Test.YtnlkffccobdbjaaGreatYWq
import Derived.Test.YtnlkffccobdbjaaGreatXM
namespace Go.Dw
open Go Go.RowKit
/-- a call that changes an owned heaplet; the chunks are known to lie apart -/
theorem callM' {P : Program} {s : List Ch} {f : Nat} {args : List Value} {q : TV → List Ch → Prop} {i : Nat} {h : Hp} (hi : sget s i = some (.hp h)) {R : Value → Hp → List Ch → Prop}
    (hc : ∀ w0 w, Ok w0 s w → CallsE P f args.toArray w (RetM w h R)) (k : ∀ v h' cs, R v h' cs → q (.v v) (sset s i (.hp h') ++ cs)) : NeedF P s f args q := by
  refine ⟨fun w0 w hok => ⟨(hc w0 w hok).1, (hc w0 w hok).2.mono fun e w' he => ?_⟩⟩
  obtain ⟨v, h', cs, rfl, h1, h2⟩ := he
  exact ⟨v, _, rfl, hok.callM hi h1, (Keep.set hi (fun b cs T e => by cases e)).trans (Keep.app _ cs), k v h' cs h2⟩
end Go.Dw
namespace Go.Proofs.YtnlkffccobdbjaaGreat
open Go Go.RowKit Go.Dw
/-- a list of jobs and an error -/
def RetJ (w : World) (L : List Jb) (x : Int) : Ending → World → Prop := Ret w fun v cs => ∃ o : Dw.Os, v = .tuple #[o.v, .int .i64 x] ∧ cs = [.hp o.h] ∧ OwnO fJ 52 3 o L
section
variable {a a' : Option Addr} {n c n' c' : Nat} {TT : List Tk} {SS : List Sn}
theorem chk_job {L : List Jb} (h : chkE TT SS L = 0) : shopE TT SS = 0 ∧ L.length = TT.length ∧ ∀ j ∈ L, JOk TT.length j := by
  unfold chkE at h
  split at h
  · rename_i h1; exact absurd h h1
  rename_i h1
  unfold schE at h
  split at h
  · cases h
  rename_i h2
  split at h
  · rename_i e he; exact absurd h (first_ne he)
  rename_i he
  refine ⟨Decidable.not_not.1 h1, by omega, fun j hj => ?_⟩
  obtain ⟨v, hv, rfl⟩ := List.mem_iff_getElem.1 hj
  obtain ⟨q1, q2, q3, _⟩ := jobE_ok (first_zero he v (by omega))
  rw [show jbA L v = L[v] from gD hv] at q1 q3
  exact ⟨⟨by omega, by omega⟩, q3.1, by omega⟩
theorem Makespan_spec {al : Option Addr} {nl cl : Nat} {L : List Jb} (w : World) (hT : Sl encT 4 (Hp.whole w) a n c TT) (hS : Sl encN 2 (Hp.whole w) a' n' c' SS) (hs : Sml TT SS) (hL : Sl (encF fJ) 3 (Hp.whole w) al nl cl L) :
    CallsE Tryz.prog 39 #[sv a n c a' n' c', .slice al nl cl] w (RetV w (.tuple #[.int .i64 (mkR TT SS L), .int .i64 (chkE TT SS L)])) := by
  obtain ⟨E, hE⟩ : ∃ E, E = chkE TT SS L := ⟨_, rfl⟩
  have kC : ∀ w' : World, Sl encT 4 (Hp.whole w') a n c TT → Sl encN 2 (Hp.whole w') a' n' c' SS → Sl (encF fJ) 3 (Hp.whole w') al nl cl L → CallsE Tryz.prog 43 #[sv a n c a' n' c', .slice al nl cl] w' (RetV w' (.int .i64 E)) := fun w' h1 h2 h3 => by
    rw [hE]; exact Check_spec w' h1 h2 hs h3
  have hr : mkR TT SS L = if E = 0 then mspF TT L else 0 := by unfold mkR; rw [hE]
  rw [hr, ← hE]
  refine enter (X := cx 16) (cxg _) (args := [.agg #[.slice a n c, .slice a' n' c'], .slice al nl cl]) [.tmp 4, .tmp 5] Tryz.func39 rfl rfl rfl rfl rfl ?_
  intro b2
  refine callV _ (fun w' hm => kC w' (hT.mono encT_mono (hm 0 _ rfl)) (hS.mono encN_mono (hm 0 _ rfl)) (hL.mono (encF_mono _) (hm 0 _ rfl))) ?_
  refine bsplitd (fun h1 => ?_) (fun h1 => ?_)
  · exact ⟨[], ⟨by rw [if_neg h1], rfl⟩, fun w' h => h.pick [0] rfl rfl⟩
  have h0 : E = 0 := by omega
  obtain ⟨g1, g2, g3⟩ := chk_job (hE.symm.trans h0)
  have hF := fit_of hs g1
  refine callV _ (fun w' hm => makespan_spec w' (hT.mono encT_mono (hm 0 _ rfl)) hF (hL.mono (encF_mono _) (hm 0 _ rfl)) g3 (by have := hF.n; omega)) ?_
  exact ⟨[], ⟨by rw [if_pos h0, h0], rfl⟩, fun w' h => h.pick [0] rfl rfl⟩
/-! ### List -/
def lisE (TT : List Tk) (SS : List Sn) (order : List Int) : Int :=
  if shopE TT SS ≠ 0 then shopE TT SS else if (List.range order.length).all (fun i => decide ((i : Int) = (srtI (fun a b : Int => decide (a < b)) order).getD i 0)) && decide (order.length = TT.length) then 0 else 8
def lisR (TT : List Tk) (SS : List Sn) (order : List Int) : List Jb := if lisE TT SS order = 0 then (lisK TT SS order order.length).1 else []
set_option maxRecDepth 10000 in
theorem List_spec {ao : Option Addr} {no co : Nat} {order : List Int} (w : World) (hT : Sl encT 4 (Hp.whole w) a n c TT) (hS : Sl encN 2 (Hp.whole w) a' n' c' SS) (hs : Sml TT SS) (hO : Sl (encF fI) 1 (Hp.whole w) ao no co order) (hl : order.length ≤ 12) :
    CallsE Tryz.prog 24 #[sv a n c a' n' c', .slice ao no co] w (RetJ w (lisR TT SS order) (lisE TT SS order)) := by
  have lT := hT.len
  have lO := hO.len
  obtain ⟨E, hE⟩ : ∃ E, E = shopE TT SS := ⟨_, rfl⟩
  obtain ⟨S, hSd⟩ : ∃ S, S = srtI (fun a b : Int => decide (a < b)) order := ⟨_, rfl⟩
  have hSl : S.length = order.length := by rw [hSd]; exact srtI_len _ _
  have hc0 : lisE TT SS order = if E ≠ 0 then E else if (List.range order.length).all (fun i => decide ((i : Int) = S.getD i 0)) && decide (order.length = TT.length) then 0 else 8 := by unfold lisE; rw [hE, hSd]
  have bad : ∀ x : Int, lisE TT SS order = x → x ≠ 0 → lisR TT SS order = [] := fun x h hx => by unfold lisR; rw [h, if_neg hx]
  refine enter (X := cx 39) (cxg _) (args := [.agg #[.slice a n c, .slice a' n' c'], .slice ao no co]) [.tmp 4, .tmp 5] Tryz.func24 rfl rfl rfl rfl rfl ?_
  intro b2
  refine callV (.int .i64 E) (fun w' hm => by rw [hE]; exact chk_spec w' (hT.mono encT_mono (hm 0 _ rfl)) (hS.mono encN_mono (hm 0 _ rfl)) hs) ?_
  refine bsplitd (fun h1 => ?_) (fun h1 => ?_)
  · rw [if_pos h1] at hc0
    exact ⟨[.hp Hp.emp], ⟨Os.nil, by rw [hc0]; rfl, rfl, by rw [bad _ hc0 h1]; exact OwnO.nil _ _ _⟩, fun w' h => Ok.emp (s := [.hp (Hp.whole w)]) (h.pick [0] rfl rfl)⟩
  rw [if_neg h1] at hc0
  have hE0 : shopE TT SS = 0 := by rw [← hE]; omega
  have hF := fit_of hs hE0
  refine call (fun w' hm => cloneInts_spec w' (hO.mono (encF_mono _) (hm 0 _ rfl)) (by omega)) ?_
  rintro _ _ ⟨o, rfl, rfl, ho⟩
  have hon := ho.len
  refine callM (i := 2) rfl (fun w' hm => sort_spec12 w' (hm 2 _ rfl) ho hl) ?_
  rintro _ h2 _ ⟨rfl, rfl, ho2⟩
  rw [← hSd] at ho2
  have hs2 := OwnO.sl (f := fI) (fun _ => rfl) (by decide) ho2
  refine NeedL.mk Nat (fun k => [(1, .v (.slice ao no co)), (2, .bx 1 0), (19, .v o.v), (20, .v (.int .i64 o.n)), (21, .v (.int .i64 k))]) (fun _ => [.hp (Hp.whole w), .box b2 [.slice a n c, .slice a' n' c'] 25, .hp h2])
    (fun k => k ≤ o.n ∧ ∀ j : Nat, j < k → (j : Int) = S.getD j 0) (fun k => o.n - k) 0 ⟨Nat.zero_le _, fun j h => by omega⟩ (Ent.mk (fun _ _ h => h) rfl rfl) ?_
  rintro k ⟨hk, hall⟩
  refine bsplitd (fun h3 => ?_) (fun h3 => ?_)
  · have hkS : k < S.length := by omega
    obtain ⟨x, hx⟩ : ∃ x, x = S[k] := ⟨_, rfl⟩
    have hxd : S.getD k 0 = x := by rw [hx]; exact gD hkS
    refine idx (cxg _) (e := 3) rfl hs2 k rfl hkS (fun b9 o9 cs hcs hR hcell => ?_)
    rw [← hx] at hR
    subst hR
    refine ld1 (cxg _) (i := 2) rfl (hcell 0 _ rfl) rfl ?_
    refine bsplitd (fun h4 => ?_) (fun h4 => ?_)
    · have h8 : lisE TT SS order = 8 := by
        rw [hc0, if_neg]
        intro hh
        rw [Bool.and_eq_true, List.all_eq_true] at hh
        have := hh.1 k (List.mem_range.2 (by omega))
        rw [decide_eq_true_eq, hxd] at this
        exact h4 this
      exact ⟨[.hp Hp.emp], ⟨Os.nil, by rw [h8]; rfl, rfl, by rw [bad _ h8 (by decide)]; exact OwnO.nil _ _ _⟩, fun w' h => Ok.emp (s := [.hp (Hp.whole w)]) (h.pick [0] rfl rfl)⟩
    · refine nw (by omega) (by omega) ?_
      refine ⟨k + 1, ⟨by omega, fun j hj => ?_⟩, by omega, Ent.mk (fun _ _ h => h) rfl rfl⟩
      rcases Nat.lt_or_ge j k with h | h
      · exact hall j h
      · rw [show j = k by omega, hxd]; omega
  · have hall2 : (List.range order.length).all (fun i => decide ((i : Int) = S.getD i 0)) = true := List.all_eq_true.2 fun i hi => decide_eq_true (hall i (by have := List.mem_range.1 hi; omega))
    rw [hall2, Bool.true_and] at hc0
    refine bsplitd (fun h4 => ?_) (fun h4 => ?_)
    · have h8 : lisE TT SS order = 8 := by rw [hc0, decide_eq_false (by omega)]; rfl
      exact ⟨[.hp Hp.emp], ⟨Os.nil, by rw [h8]; rfl, rfl, by rw [bad _ h8 (by decide)]; exact OwnO.nil _ _ _⟩, fun w' h => Ok.emp (s := [.hp (Hp.whole w)]) (h.pick [0] rfl rfl)⟩
    · have hlen : order.length = TT.length := by omega
      have h0 : lisE TT SS order = 0 := by rw [hc0, decide_eq_true hlen]; rfl
      have hp : S.Perm order := by rw [hSd]; exact srtI_perm _ _
      have hSk : ∀ v : Nat, (hv : v < S.length) → S[v] = (v : Int) := fun v hv => by
        have := hall v (by omega)
        rw [show S.getD v 0 = S[v] from gD hv] at this; exact this.symm
      have hor : ∀ x ∈ order, 0 ≤ x ∧ x < (TT.length : Int) := fun x hx => by
        obtain ⟨v, hv, rfl⟩ := List.mem_iff_getElem.1 (hp.mem_iff.2 hx)
        rw [hSk v hv]; omega
      have hoa : ∀ i : Nat, i < TT.length → (i : Int) ∈ order := fun i hi => hp.mem_iff.1 (by
        rw [← hSk i (by omega)]; exact List.getElem_mem _)
      refine call (fun w' hm => list_spec w' (hT.mono encT_mono (hm 0 _ rfl)) (hS.mono encN_mono (hm 0 _ rfl)) hs hE0 (hO.mono (encF_mono _) (hm 0 _ rfl)) hlen hor hoa) ?_
      rintro _ _ ⟨o3, rfl, rfl, ho3⟩
      exact ⟨[.hp o3.h], ⟨o3, by rw [h0], rfl, by unfold lisR; rw [if_pos h0]; exact ho3⟩, fun w' h => h.pick [0, 3] rfl rfl⟩
/-! ### Priority -/
def prC (TT : List Tk) (T : List Int) (rule : Int) (x y : Int) : Int := if rule = 1 then T.getD y.toNat 0 - T.getD x.toNat 0 else if rule = 2 then duA TT y.toNat - duA TT x.toNat else x - y
def prE (TT : List Tk) (SS : List Sn) (rule : Int) : Int := if shopE TT SS ≠ 0 then shopE TT SS else if rule < 1 ∨ rule > 3 then 12 else 0
def prL (TT : List Tk) (T : List Int) (rule : Int) : List Int := srtI (fun x y : Int => decide (prC TT T rule x y < 0)) (natL (List.range TT.length))
def prR (TT : List Tk) (SS : List Sn) (rule : Int) : List Int := if prE TT SS rule = 0 then prL TT (tailsF TT) rule else []
theorem prio1_spec {f0 f1 f2 : Nat} {al : Option Addr} {nl cl : Nat} {T : List Int} (rule : Int) (i j : Nat) (w : World) (h0 : Bx (Hp.whole w) f0 [.int .i64 rule]) (h1 : Bx (Hp.whole w) f1 [.slice al nl cl]) (h2 : Bx (Hp.whole w) f2 [.slice a n c, .slice a' n' c'])
    (hT : Sl encT 4 (Hp.whole w) a n c TT) (hF : Fit TT) (hA : Sl (encF fI) 1 (Hp.whole w) al nl cl T) (hTl : T.length = TT.length) (hTb : ∀ x ∈ T, 0 ≤ x ∧ x ≤ 1048576 * 24) (hi : i < TT.length) (hj : j < TT.length) :
    CallsE Tryz.prog 75 #[.int .i64 i, .int .i64 j, .pointer (some ⟨f0, 0, none⟩), .pointer (some ⟨f1, 0, none⟩), .pointer (some ⟨f2, 0, none⟩)] w (RetV w (.int .i64 (prC TT T rule i j))) := by
  have hN := hF.n
  have hiT : i < T.length := by omega
  have hjT : j < T.length := by omega
  obtain ⟨x, hx⟩ : ∃ x, x = T[i] := ⟨_, rfl⟩
  obtain ⟨y, hy⟩ : ∃ y, y = T[j] := ⟨_, rfl⟩
  obtain ⟨s, hsd⟩ : ∃ s, s = TT[i] := ⟨_, rfl⟩
  obtain ⟨t, ht⟩ : ∃ t, t = TT[j] := ⟨_, rfl⟩
  have bx := hTb x (by rw [hx]; exact List.getElem_mem hiT)
  have byy := hTb y (by rw [hy]; exact List.getElem_mem hjT)
  have bs := hF.du s (by rw [hsd]; exact List.getElem_mem hi)
  have bt := hF.du t (by rw [ht]; exact List.getElem_mem hj)
  have hp : prC TT T rule i j = if rule = 1 then y - x else if rule = 2 then t.du - s.du else (i : Int) - j := by
    unfold prC duA
    rw [Int.toNat_natCast, Int.toNat_natCast, gD hiT, gD hjT, tk_get hi, tk_get hj, ← hx, ← hy, ← hsd, ← ht]
  refine enter (X := cx 38) (cxg _) (args := [.int .i64 i, .int .i64 j, .pointer (some ⟨f0, 0, none⟩), .pointer (some ⟨f1, 0, none⟩), .pointer (some ⟨f2, 0, none⟩)]) [.tmp 7] Tryz.func75 rfl rfl rfl rfl rfl ?_
  refine ld1 (cxg _) (i := 0) rfl (h0 0 _ rfl) rfl ?_
  refine bsplitd (fun g1 => ?_) (fun g1 => ?_)
  · refine NeedD.by_order (cxg _) (.take 0 <| .take 1 <| .take 2 <| .take 3 <| .take 4 <| .take 5 <| .take 6 <| .take 7 <| .take 8 <| .take 9 <| .done) (by kernel_rfl) ?_
    refine ld1 (cxg _) (i := 0) rfl (h1 0 _ rfl) rfl ?_
    refine idx (cxg _) (e := 3) rfl hA j rfl hjT (fun b9 o9 cs hcs hR hcell2 => ?_)
    rw [← hy] at hR
    subst hR
    refine ld1 (cxg _) (i := 0) rfl (hcell2 0 _ rfl) rfl ?_
    refine ld1 (cxg _) (i := 0) rfl (h1 0 _ rfl) rfl ?_
    refine idx (cxg _) (e := 3) rfl hA i rfl hiT (fun b9 o9 cs hcs hR hcell3 => ?_)
    rw [← hx] at hR
    subst hR
    refine ld1 (cxg _) (i := 0) rfl (hcell3 0 _ rfl) rfl ?_
    refine nw (by omega) (by omega) ?_
    exact ⟨[], ⟨by rw [hp, if_pos g1], rfl⟩, fun w' h => h⟩
  · rw [if_neg g1] at hp
    refine bsplitd (fun g2 => ?_) (fun g2 => ?_)
    · refine NeedD.by_order (cxg _) (.take 0 <| .take 1 <| .take 2 <| .take 3 <| .take 4 <| .take 5 <| .take 6 <| .take 7 <| .take 8 <| .take 9 <| .take 10 <| .take 11 <| .take 12 <| .take 13 <| .done) (by kernel_rfl) ?_
      refine ld1 (cxg _) (i := 0) rfl (h2 0 _ rfl) rfl ?_
      refine idx (cxg _) (e := 64) rfl hT j rfl hj (fun b9 o9 cs hcs hR hcell5 => ?_)
      rw [← ht] at hR
      obtain ⟨a3, n3, c3, rfl, hs3⟩ := hR
      refine ld1 (cxg _) (i := 0) rfl (hcell5 1 _ rfl) rfl ?_
      refine ld1 (cxg _) (i := 0) rfl (h2 0 _ rfl) rfl ?_
      refine idx (cxg _) (e := 64) rfl hT i rfl hi (fun b9 o9 cs hcs hR hcell6 => ?_)
      rw [← hsd] at hR
      obtain ⟨a4, n4, c4, rfl, hs4⟩ := hR
      refine ld1 (cxg _) (i := 0) rfl (hcell6 1 _ rfl) rfl ?_
      refine nw (by omega) (by omega) ?_
      exact ⟨[], ⟨by rw [hp, if_pos g2], rfl⟩, fun w' h => h⟩
    · refine nw (by omega) (by omega) ?_
      exact ⟨[], ⟨by rw [hp, if_neg g2], rfl⟩, fun w' h => h⟩
def iniK (N k : Nat) : List Int := (List.range N).map fun i => if i < k then (i : Int) else 0
set_option maxRecDepth 10000 in
theorem Priority_spec (rule : Int) (w : World) (hT : Sl encT 4 (Hp.whole w) a n c TT) (hS : Sl encN 2 (Hp.whole w) a' n' c' SS) (hs : Sml TT SS) (hl : TT.length ≤ 12) :
    CallsE Tryz.prog 26 #[sv a n c a' n' c', .int .i64 rule] w (RetI w (prR TT SS rule) (prE TT SS rule)) := by
  have lT := hT.len
  obtain ⟨E, hE⟩ : ∃ E, E = shopE TT SS := ⟨_, rfl⟩
  have hc0 : prE TT SS rule = if E ≠ 0 then E else if rule < 1 ∨ rule > 3 then 12 else 0 := by unfold prE; rw [hE]
  have bad : ∀ x : Int, prE TT SS rule = x → x ≠ 0 → prR TT SS rule = [] := fun x h hx => by unfold prR; rw [h, if_neg hx]
  refine enter (X := cx 42) (cxg _) (args := [.agg #[.slice a n c, .slice a' n' c'], .int .i64 rule]) [.tmp 4, .tmp 5] Tryz.func26 rfl rfl rfl rfl rfl ?_
  intro b2
  intro b3
  refine call (fun w' hm => tTails_spec w' (hT.mono encT_mono (hm 0 _ rfl)) (hS.mono encN_mono (hm 0 _ rfl)) hs) ?_
  rintro _ _ ⟨oT, rfl, rfl, hoT⟩
  rw [← hE]
  intro b6
  refine bsplitd (fun h1 => ?_) (fun h1 => ?_)
  · rw [if_pos h1] at hc0
    exact ⟨[.hp Hp.emp], ⟨Os.nil, by rw [hc0]; rfl, rfl, by rw [bad _ hc0 h1]; exact OwnO.nil _ _ _⟩, fun w' h => Ok.emp (s := [.hp (Hp.whole w)]) (h.pick [0] rfl rfl)⟩
  rw [if_neg h1] at hc0
  have hE0 : shopE TT SS = 0 := by rw [← hE]; omega
  have hF := fit_of hs hE0
  have e12 : (rule < 1 ∨ rule > 3) → prE TT SS rule = 12 := fun h => by rw [hc0, if_pos h]
  refine bsplitd (fun h2 => ?_) (fun h2 => ?_)
  · have h8 := e12 (.inl h2)
    exact ⟨[.hp Hp.emp], ⟨Os.nil, by rw [h8]; rfl, rfl, by rw [bad _ h8 (by decide)]; exact OwnO.nil _ _ _⟩, fun w' h => Ok.emp (s := [.hp (Hp.whole w)]) (h.pick [0] rfl rfl)⟩
  refine bsplitd (fun h3 => ?_) (fun h3 => ?_)
  · have h8 := e12 (.inr h3)
    exact ⟨[.hp Hp.emp], ⟨Os.nil, by rw [h8]; rfl, rfl, by rw [bad _ h8 (by decide)]; exact OwnO.nil _ _ _⟩, fun w' h => Ok.emp (s := [.hp (Hp.whole w)]) (h.pick [0] rfl rfl)⟩
  have h0 : prE TT SS rule = 0 := by rw [hc0, if_neg (by omega)]
  have hTa : taiR TT SS = tailsF TT := by unfold taiR; rw [if_pos hE0]
  rw [hTa] at hoT
  have hsT := OwnO.sl (f := fI) (fun _ => rfl) (by decide) hoT
  have hTl := tails_len hF
  refine mkO (f := fI) (cxg _) (e := 3) rfl n 0 rfl (by omega) (by omega) rfl (by omega) fun o27 ho27n ho27 => ?_
  refine NeedL.mk (Nat × Dw.Os) (fun g => [(2, .bx 1 0), (3, .bx 2 0), (6, .bx 4 0), (8, .v o27.v), (29, .v (.int .i64 n)), (30, .v (.int .i64 g.1))]) (fun g => [.hp (Hp.whole w), .box b2 [.slice a n c, .slice a' n' c'] 25, .box b3 [.int .i64 rule] 3, .hp oT.h, .box b6 [oT.v] 28, .hp g.2.h])
    (fun g => g.1 ≤ n ∧ (g.2.a = o27.a ∧ g.2.n = o27.n ∧ g.2.c = o27.c) ∧ OwnO fI 3 1 g.2 (iniK n g.1)) (fun g => n - g.1) (0, o27) ⟨Nat.zero_le _, ⟨rfl, rfl, rfl⟩, ?_⟩ (Ent.mk (fun _ _ h => h) (by rw [← ho27n]; rfl) rfl) ?_
  · have e0 : iniK n 0 = List.replicate n 0 := by
      apply List.ext_getElem
      · simp [iniK]
      · intro j h1 h2; simp [iniK]
    dsimp only; rw [e0]; exact ho27
  rintro ⟨k, o1⟩ ⟨hk, ⟨e1, e2, e3⟩, ho1⟩
  dsimp only at *
  obtain ⟨oa, on, oc, hh⟩ := o1
  simp only at e1 e2 e3
  subst e1 e2 e3
  refine bsplitd (fun h4 => ?_) (fun h4 => ?_)
  · have hkl : k < (iniK n k).length := by simp [iniK]; omega
    refine oidx1 (cxg _) (e := 3) rfl rfl ho1 k rfl hkl fun b7 hb7 => ?_
    refine osto (g := fun x : Int => .int .i64 x) (fun _ => rfl) (cxg _) (i := 5) rfl hb7 ho1 hkl rfl rfl (k : Int) rfl rfl rfl fun o2 f1 f2 f3 ho2 => ?_
    refine nw (by omega) (by omega) ?_
    have est : (iniK n k).set k (k : Int) = iniK n (k + 1) := by
      apply List.ext_getElem
      · simp [iniK]
      · intro j g1 g2
        rw [List.getElem_set]
        simp only [iniK, List.getElem_map, List.getElem_range]
        by_cases hj : k = j
        · rw [if_pos hj, if_pos (by omega), hj]
        · rw [if_neg hj]
          by_cases hj2 : j < k
          · rw [if_pos hj2, if_pos (by omega)]
          · rw [if_neg hj2, if_neg (by omega)]
    rw [est] at ho2
    exact ⟨(k + 1, o2), ⟨by dsimp only; omega, ⟨f1, f2, f3⟩, ho2⟩, by dsimp only; omega, Ent.mk (fun _ _ h => h) rfl rfl⟩
  · have efin : iniK n k = natL (List.range TT.length) := by
      apply List.ext_getElem
      · simp [iniK, natL]; omega
      · intro j g1 g2
        have : j < n := by simpa [iniK] using g1
        simp only [iniK, natL, List.getElem_map, List.getElem_range]
        rw [if_pos (by omega)]
    rw [efin] at ho1
    have hmem : ∀ x ∈ natL (List.range TT.length), ∃ v : Nat, v < TT.length ∧ x = v := fun x hx => by
      obtain ⟨v, hv, rfl⟩ := List.mem_map.1 hx
      exact ⟨v, List.mem_range.1 hv, rfl⟩
    have hTb : ∀ x ∈ tailsF TT, 0 ≤ x ∧ x ≤ 1048576 * 24 := fun x hx => by
      refine ⟨?_, tails_le hF x hx⟩
      obtain ⟨v, hv, rfl⟩ := List.mem_iff_getElem.1 hx
      have := ((Bd.all hF (L := (ordF TT).reverse) (Bd.zero TT.length) fun x hx => ordF_lt x (List.mem_reverse.1 hx)).2 v (by omega)).1
      rwa [show ((ordF TT).reverse.foldl (tlS TT) (List.replicate TT.length 0)).getD v 0 = (tailsF TT)[v] from gD hv] at this
    have kS : ∀ (w0 w' : World), Ok w0 [.hp (Hp.whole w), .box b2 [.slice a n c, .slice a' n' c'] 25, .box b3 [.int .i64 rule] 3, .hp oT.h, .box b6 [oT.v] 28, .hp hh] w' →
        CallsE Tryz.prog 74 #[o27.v, .func (.func 75) ⟨[]⟩ ⟨[.pointer (some ⟨b3, 0, none⟩), .pointer (some ⟨b6, 0, none⟩), .pointer (some ⟨b2, 0, none⟩)]⟩] w'
          (RetM w' hh fun v h' cs => v = .tuple #[] ∧ cs = [] ∧ OwnO fI 3 1 ⟨o27.a, o27.n, o27.c, h'⟩ (prL TT (tailsF TT) rule)) := fun w0 w' hok => by
      have le := fun {i : Nat} {cc : Ch} (hi : sget [.hp (Hp.whole w), .box b2 [.slice a n c, .slice a' n' c'] 25, .box b3 [.int .i64 rule] 3, .hp oT.h, .box b6 [oT.v] 28, .hp hh] i = some cc) (hn : i ≠ 5) => Hp.le_minus (hok.mem i cc hi).whole (hok.disj i 5 cc (.hp hh) hn hi rfl)
      have boxL : ∀ {i b T : Nat} {cs : List Value}, sget [.hp (Hp.whole w), .box b2 [.slice a n c, .slice a' n' c'] 25, .box b3 [.int .i64 rule] 3, .hp oT.h, .box b6 [oT.v] 28, .hp hh] i = some (.box b cs T) → i ≠ 5 → Bx ((Hp.whole w').minus hh) b cs := fun hi hn j v e => (le hi hn).cell (by rw [Nat.zero_add]; simp [Ch.h, Hp.cell?, Hp.one, e])
      refine sortStableI_spec (o := ⟨o27.a, o27.n, o27.c, hh⟩) 75 [.pointer (some ⟨b3, 0, none⟩), .pointer (some ⟨b6, 0, none⟩), .pointer (some ⟨b2, 0, none⟩)] (prC TT (tailsF TT) rule) w' (hok.mem 5 _ rfl) ho1 (by simp [natL]; omega) (fun w2 h2 x hx y hy => ?_)
      obtain ⟨i, hi, rfl⟩ := hmem x hx
      obtain ⟨j, hj, rfl⟩ := hmem y hy
      exact prio1_spec rule i j w2 ((boxL (i := 2) rfl (by decide)).mono h2) ((boxL (i := 4) rfl (by decide)).mono h2) ((boxL (i := 1) rfl (by decide)).mono h2) (hT.mono encT_mono ((le (i := 0) rfl (by decide)).trans h2)) hF (hsT.mono (encF_mono _) ((le (i := 3) rfl (by decide)).trans h2)) hTl hTb hi hj
    refine callM' (i := 5) rfl kS ?_
    rintro _ h2 _ ⟨rfl, rfl, ho2⟩
    exact ⟨[.hp h2], ⟨⟨o27.a, o27.n, o27.c, h2⟩, by rw [h0]; rfl, rfl, by unfold prR; rw [if_pos h0]; exact ho2⟩, fun w' h => h.pick [0, 5] rfl rfl⟩
end
end Go.Proofs.YtnlkffccobdbjaaGreat
