/- Contract of the library's Compact on edges. Its premises are its own. -/
import Derived.Test.YtdjhgcpmipglfaaGb
import Derived.Test.YtdjhgcpmipglfaaDwi
namespace Go.Proofs.Ytdjhgcpmipglfaa
open Go Go.RowKit Go.Dw

/-- runs of equal elements become one -/
def dd : List (Int × Int) → List (Int × Int)
  | [] => []
  | [x] => [x]
  | x :: y :: r => if x = y then dd (y :: r) else x :: dd (y :: r)
theorem dd_snoc : ∀ (P : List (Int × Int)) (a b : Int × Int), dd (P ++ [a, b]) = if b = a then dd (P ++ [a]) else dd (P ++ [a]) ++ [b]
  | [], a, b => by
    by_cases h : a = b
    · subst h; simp [dd]
    · simp [dd, h, Ne.symm h]
  | [x], a, b => by
    by_cases h1 : x = a <;> by_cases h : a = b
    · subst h h1; simp [dd]
    · subst h1; simp [dd, h, Ne.symm h]
    · subst h; simp [dd, h1]
    · simp [dd, h1, h, Ne.symm h]
  | x :: y :: P, a, b => by
    have ih := dd_snoc (y :: P) a b
    simp only [List.cons_append] at ih ⊢
    rw [dd, dd, ih]
    by_cases h : x = y <;> by_cases h2 : b = a <;> simp [h, h2]
theorem dd_step {L : List (Int × Int)} {k : Nat} (h : k + 1 < L.length) : dd (L.take (k + 2)) = if L[k + 1] = L[k] then dd (L.take (k + 1)) else dd (L.take (k + 1)) ++ [L[k + 1]] := by
  rw [List.take_succ_eq_append_getElem h, List.take_succ_eq_append_getElem (show k < L.length by omega), List.append_assoc]
  exact dd_snoc _ _ _
theorem dd_len : ∀ L : List (Int × Int), (dd L).length ≤ L.length
  | [] => Nat.le_refl _
  | [x] => Nat.le_refl _
  | x :: y :: r => by
    have := dd_len (y :: r)
    rw [dd]; split <;> simp at * <;> omega
theorem compact_spec {o : Dw.Os} {L : List (Int × Int)} (w : World) (hin : o.h.In w) (ho : OwnO fE 32 2 o L) (hl : L.length < 1000000) :
    CallsE Try.prog 73 #[o.v] w (RetM w o.h fun v h' cs => ∃ o', v = o'.v ∧ o'.h = h' ∧ cs = [] ∧ OwnO fE 32 2 o' (dd L)) := by
  have hn := ho.len
  have hf : ∀ x : Int × Int, (fE x).length = 2 := fun _ => rfl
  have hs := OwnO.sl hf (by decide) ho
  refine enterM (X := cx 61) (cxg _) (args := [o.v]) hin [.tmp 2] Try.func73 rfl rfl rfl rfl rfl ?_
  refine bsplitd (fun h2 => ?_) (fun h2 => ?_)
  · refine ⟨o.h, [], ⟨o, rfl, rfl, rfl, ?_⟩, fun w' h => h⟩
    have : dd L = L := by
      match L, hn with
      | [], _ => rfl
      | [x], _ => rfl
      | x :: y :: r, hn => simp at hn; omega
    rw [this]; exact ho
  refine NeedL.mk Nat (fun k => [(0, .v o.v), (3, .v (.int .i64 k))]) (fun _ => [.hp ((Hp.whole w).minus o.h), .hp o.h])
    (fun k => 1 ≤ k ∧ k ≤ o.n ∧ dd (L.take k) = L.take k) (fun k => o.n - k) 1 ⟨Nat.le_refl _, by omega, ?_⟩ (Ent.mk (fun _ _ h => h) rfl rfl) ?_
  · match L, hn with
    | [], hn => rfl
    | x :: r, hn => simp [dd]
  rintro k ⟨hk1, hkn, hdd⟩
  refine bsplitd (fun hlt => ?_) (fun hge => ?_)
  · obtain ⟨j, rfl⟩ : ∃ j, k = j + 1 := ⟨k - 1, by omega⟩
    have hj1 : j + 1 < L.length := by omega
    refine NeedD.by_order (cxg _) (.take 0 <| .take 1 <| .take 2 <| .take 3 <| .take 4 <| .take 5 <| .take 6 <| .take 7 <| .take 8 <| .take 9 <| .done) (by kernel_rfl) ?_
    refine idx (cxg _) (e := 32) rfl hs (j + 1) rfl hj1 (fun b1 o1 cs hcs hR hcell => ?_)
    subst hR
    refine ldn (cxg _) (i := 1) rfl hcell rfl ?_
    refine nw (by omega) (by omega) ?_
    refine idx (cxg _) (e := 32) rfl hs j (by omega) (by omega) (fun b1 o1 cs hcs hR hcell => ?_)
    subst hR
    refine ldn (cxg _) (i := 1) rfl hcell rfl ?_
    refine qEdgeEq ?_
    have hst := dd_step hj1
    refine bsplitd (fun heq => ?_) (fun hne => ?_)
    · have heq : L[j + 1] = L[j] := heq
      rw [if_pos heq] at hst
      obtain ⟨b, hb⟩ : ∃ b, o.a = some ⟨b, 0, none⟩ := by
        rcases ho.2.2 with ⟨h0, _⟩ | ⟨b, _, h1, _⟩
        · omega
        · exact ⟨b, h1⟩
      have hcap : o.n ≤ o.c := hs.cap
      refine slO (cxg _) (e := 32) rfl hb (j + 1) rfl (by omega) hcap ?_
      refine NeedL.mk (Nat × Nat × Dw.Os × List (Int × Int)) (fun g => [(0, .v o.v), (3, .v (.int .i64 g.1)), (4, .v (.slice (some ⟨b, 0 + (j + 1) * 2, none⟩) (o.n - (j + 1)) (o.c - (j + 1)))), (5, .v (.int .i64 g.2.1))]) (fun g => [.hp ((Hp.whole w).minus o.h), .hp g.2.2.1.h])
        (fun g => g.2.2.1.a = o.a ∧ g.2.2.1.n = o.n ∧ g.2.2.1.c = o.c ∧ OwnO fE 32 2 g.2.2.1 g.2.2.2 ∧ 1 ≤ g.2.1 ∧ g.2.1 ≤ o.n - (j + 1) ∧ g.1 ≤ j + g.2.1 ∧ g.2.2.2.take g.1 = dd (L.take (j + 1 + g.2.1)) ∧ g.2.2.2.drop (j + g.2.1) = L.drop (j + g.2.1))
        (fun g => o.n - g.2.1) (j + 1, 1, o, L) ⟨rfl, rfl, rfl, ho, Nat.le_refl _, by dsimp only; omega, by dsimp only; omega, by dsimp only; rw [hst, hdd], rfl⟩ (Ent.mk (fun _ _ h => h) rfl rfl) ?_
      clear hst hdd heq
      rintro ⟨k, i, o2, M⟩ ⟨ha2, hn2, hc2, ho2, hi1, hin2, hki, hM1, hM2⟩
      dsimp only at *
      have hML : M.length = L.length := by rw [← ho2.len, hn2, hn]
      have hs2 : Sl (encF fE) 2 o2.h (some ⟨b, 0 + (j + 1) * 2, none⟩) (o.n - (j + 1)) (o.c - (j + 1)) (M.drop (j + 1)) := by
        have := OwnO.sl hf (by decide) ho2
        rw [ha2, hb, hn2, hc2] at this
        exact this.drop (j + 1) (by omega)
      refine bsplitd (fun hlt => ?_) (fun hge => ?_)
      · have hil : j + 1 + i < L.length := by omega
        have hd1 : i < (M.drop (j + 1)).length := by simp; omega
        have hd0 : i - 1 < (M.drop (j + 1)).length := by simp; omega
        have get : ∀ t, j + i ≤ t → (ht : t < L.length) → (ht2 : t < M.length) → M[t] = L[t] := fun t h ht ht2 => by
          have e1 : (M.drop (j + i))[t - (j + i)]? = (L.drop (j + i))[t - (j + i)]? := by rw [hM2]
          rw [List.getElem?_drop, List.getElem?_drop, show j + i + (t - (j + i)) = t by omega, List.getElem?_eq_getElem ht, List.getElem?_eq_getElem ht2] at e1
          exact Option.some.inj e1
        have g1 : (M.drop (j + 1))[i] = L[j + 1 + i] := by rw [List.getElem_drop]; exact get _ (by omega) hil (by omega)
        have g0 : (M.drop (j + 1))[i - 1] = L[j + i] := by
          rw [List.getElem_drop]
          have := get (j + i) (Nat.le_refl _) (by omega) (by omega)
          rw [← this]; congr 1; omega
        have hM3 : M.drop (j + (i + 1)) = L.drop (j + (i + 1)) := by
          have h1 := congrArg (List.drop 1) hM2
          rw [List.drop_drop, List.drop_drop] at h1
          exact h1
        have hst := dd_step (L := L) (k := j + i) (by omega)
        have hst : dd (L.take (j + 1 + (i + 1))) = if L[j + 1 + i] = L[j + i] then dd (L.take (j + 1 + i)) else dd (L.take (j + 1 + i)) ++ [L[j + 1 + i]] := by
          have e1 : j + 1 + (i + 1) = j + i + 2 := by omega
          have e2 : j + 1 + i = j + i + 1 := by omega
          simp only [e1, e2]; exact hst
        refine NeedD.by_order (cxg _) (.take 0 <| .take 1 <| .take 2 <| .take 3 <| .take 4 <| .take 5 <| .take 6 <| .take 7 <| .take 8 <| .take 9 <| .done) (by kernel_rfl) ?_
        refine idx (cxg _) (e := 32) rfl hs2 i rfl hd1 (fun b1 o1 cs hcs hR hcell => ?_)
        subst hR
        refine ldn (cxg _) (i := 1) rfl hcell rfl ?_
        refine nw (by omega) (by omega) ?_
        refine idx (cxg _) (e := 32) rfl hs2 (i - 1) (by omega) hd0 (fun b1 o1 cs hcs hR hcell => ?_)
        subst hR
        refine ldn (cxg _) (i := 1) rfl hcell rfl ?_
        refine qEdgeNe ?_
        refine bsplitd (fun hne => ?_) (fun heq => ?_)
        · have hne : ¬ L[j + 1 + i] = L[j + i] := by rw [← g1, ← g0]; exact hne
          rw [if_neg hne] at hst
          refine idx (cxg _) (e := 32) rfl hs2 i rfl hd1 (fun b1 o1 cs hcs hR hcell => ?_)
          subst hR
          refine ldn (cxg _) (i := 1) rfl hcell rfl ?_
          have hov : o.v = o2.v := by simp only [Os.v, ha2, hn2, hc2]
          have hkM : k < M.length := by omega
          rw [hov]
          refine oidxN (cxg _) (e := 32) rfl ho2 k rfl hkM fun b3 hb3 => ?_
          refine ostoN (sz := 2) (cxg _) hf (i := 1) rfl hb3 ho2 hkM rfl rfl ((M.drop (j + 1))[i]) rfl rfl rfl fun o3 e1 e2 e3 ho3 => ?_
          refine nw (by omega) (by omega) ?_
          refine nw (by omega) (by omega) ?_
          refine ⟨(k + 1, i + 1, o3, M.set k ((M.drop (j + 1))[i])), ⟨by dsimp only; rw [e1, ha2], by dsimp only; rw [e2, hn2], by dsimp only; rw [e3, hc2], ho3, by dsimp only; omega, by dsimp only; omega, by dsimp only; omega, ?_, ?_⟩, by dsimp only; omega, Ent.mk (fun _ _ h => h) rfl rfl⟩
          · dsimp only
            rw [hst, ← hM1, List.take_succ_eq_append_getElem (by simpa using hkM), List.take_set_of_le (Nat.le_refl _), List.getElem_set_self, g1]
          · dsimp only
            rw [List.drop_set_of_lt (by omega)]
            exact hM3
        · have heq : L[j + 1 + i] = L[j + i] := by
            rw [← g1, ← g0]
            exact Decidable.not_not.1 heq
          rw [if_pos heq] at hst
          refine nw (by omega) (by omega) ?_
          refine ⟨(k, i + 1, o2, M), ⟨ha2, hn2, hc2, ho2, by dsimp only; omega, by dsimp only; omega, by dsimp only; omega, by dsimp only; rw [hst]; exact hM1, ?_⟩, by dsimp only; omega, Ent.mk (fun _ _ h => h) rfl rfl⟩
          exact hM3
      · rw [show L.take (j + 1 + i) = L from List.take_of_length_le (by omega)] at hM1
        have hkn' : k < M.length := by omega
        refine slO (cxg _) (e := 32) rfl hb k rfl (by omega) hcap ?_
        rw [← hn2]
        refine clrO (cxg _) (e := 32) rfl hf (i := 1) rfl (by rw [ha2]; exact hb) ho2 hkn' rfl fun h' ho' => ?_
        refine slT (cxg _) (e := 32) rfl k rfl (by omega) ?_
        refine ⟨h', [], ⟨⟨o2.a, k, o2.c, h'⟩, by rw [ha2, hc2]; rfl, rfl, rfl, ?_⟩, fun w' h => h⟩
        rw [← hM1]; exact ho'
    · refine nw (by omega) (by omega) ?_
      have hne : ¬ L[j + 1] = L[j] := hne
      rw [if_neg hne, hdd] at hst
      refine ⟨j + 2, ⟨by omega, by omega, ?_⟩, by omega, Ent.mk (fun _ _ h => h) rfl rfl⟩
      rw [hst, ← List.take_succ_eq_append_getElem hj1]
  · rw [List.take_of_length_le (by omega)] at hdd
    exact ⟨o.h, [], ⟨o, rfl, rfl, rfl, by rw [hdd]; exact ho⟩, fun w' h => h⟩
end Go.Proofs.Ytdjhgcpmipglfaa
