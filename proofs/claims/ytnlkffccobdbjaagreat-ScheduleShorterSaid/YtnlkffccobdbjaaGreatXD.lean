/- Parts of one proof, joined: Gb, Gc, Gd, Ge, Gf, Gg, Gh, Gi, Gj, Gk, Gl. No condition of its own. -/
import Derived.Test.YtnlkffccobdbjaaGreatXC
import Derived.Test.YtnlkffccobdbjaaGreatYSo
import Derived.Test.YtnlkffccobdbjaaGreatXB
namespace Go.Proofs.YtnlkffccobdbjaaGreat
open Go Go.RowKit Go.Dw Go.Sort Go.Lib

theorem cmpI_swap (x y : Int) : cmpI x y < 0 ↔ x < y := by unfold cmpI; split <;> (try split) <;> omega
theorem order_lt (a b : Int × Int) : orderF a b < 0 ↔ a.1 < b.1 ∨ (a.1 = b.1 ∧ a.2 < b.2) := by
  unfold orderF cmpI
  repeat (first | split | omega)
theorem ltOf_order (a b : Int × Int) : ltOf orderF a b = decide (a.1 < b.1 ∨ (a.1 = b.1 ∧ a.2 < b.2)) := by
  unfold ltOf; simp only [order_lt]
theorem swoOrder : SWO (ltOf orderF) where
  irrefl x := by rw [ltOf_order]; simp
  trans x y z h1 h2 := by rw [ltOf_order] at *; simp only [decide_eq_true_eq] at *; omega
  ntrans x y z h1 h2 := by rw [ltOf_order] at *; simp only [decide_eq_false_iff_not] at *; omega
/-- a world that holds another whole one is that one, grown -/
theorem grown_of_ok {W w' : World} (h : Ok W [.hp (Hp.whole W)] w') : ∃ q os, w' = grow (W.drewN q) os := by
  refine ⟨w'.drawn - W.drawn, w'.heap.extract W.heap.size w'.heap.size, ?_⟩
  have hm := h.mem 0 _ rfl
  have hs := h.size
  have h1 : w'.heap = W.heap ++ w'.heap.extract W.heap.size w'.heap.size := by
    apply Array.ext_getElem?
    intro k
    rw [Array.getElem?_append]
    split
    · rename_i hk
      have : (Hp.whole W) k = some W.heap[k] := by simp [Hp.whole, hk]
      rw [hm k _ this]; simp [hk]
    · rename_i hk
      rw [Array.getElem?_extract]
      split
      · congr 1; omega
      · rw [Array.getElem?_eq_none]; omega
  have h2 := h.drawn
  have h3 := h.os
  have h4 := h.tape
  have h5 := h.output
  cases w'; cases W
  simp only [grow, World.drewN] at *
  subst h3 h4 h5
  rw [← h1]
  congr 1
  omega
/-- the list, sorted -/
def sortF (L : List (Int × Int)) : List (Int × Int) := L.mergeSort fun x y => !(ltOf orderF) y x
theorem sortF_len (L : List (Int × Int)) : (sortF L).length = L.length := List.length_mergeSort _
theorem sort_spec {o : Dw.Os} {L : List (Int × Int)} (w : World) (hin : o.h.In w) (ho : OwnO fE 164 2 o L) (hl : L.length < 1000000) :
    CallsE Tryz.prog 167 #[o.v, .func (.func 165) #[] #[]] w (RetM w o.h fun v h' cs => v = .tuple #[] ∧ cs = [] ∧ OwnO fE 164 2 ⟨o.a, o.n, o.c, h'⟩ (sortF L)) := by
  have eg : ∀ args w, (callFunc 165 args).run Tryz.prog w = .ok (.enter 165 args) w := enters_of Tryz.func165 (by kernel_rfl) rfl
  refine ⟨fun w => enters_of Tryz.func167 (by kernel_rfl) rfl _ w, ?_⟩
  have hn := ho.len
  rcases ho.2.2 with ⟨h0, hc0⟩ | ⟨b, arr, h1, h2, h3, h4, h5, h6⟩
  · have hL : L = [] := List.eq_nil_of_length_eq_zero (by omega)
    have hcon := AnyF.slices_SortFunc_none Tryz.sortE o.a o.c (.func (.func 165) #[] #[]) w
    change Calls Tryz.prog 167 _ _ _ at hcon
    have e0 : o.v = .slice o.a 0 o.c := by rw [Os.v, h0]
    rw [e0]
    refine hcon.mono ?_
    rintro e w' ⟨rfl, rfl⟩
    refine ⟨_, o.h, [], rfl, Ok.start2 _ hin, rfl, rfl, ?_⟩
    subst hL
    have : sortF [] = [] := List.eq_nil_of_length_eq_zero (by rw [sortF_len]; rfl)
    rw [this]
    exact ho
  · have hk : ∀ x : Int × Int, (fE x).length = 2 := fun _ => rfl
    have hone : ∀ x : Int × Int, ∀ v ∈ fE x, v.oneCell' = true := fun x v hv => by simp [fE] at hv; rcases hv with rfl | rfl <;> rfl
    have hblk := hin b _ h2
    have hbl : b < w.heap.size := (Array.getElem?_eq_some_iff.1 hblk).1
    have hfl := flatLen hk
    have hcmp : CmpLays Tryz.prog 165 #[] fE 2 orderF b 0 L.toArray.size w := fun m os dk _ x y => by
      refine (order_spec x y _).2.mono ?_
      rintro e w' ⟨v, cs, rfl, hok, rfl, rfl⟩
      exact ⟨rfl, grown_of_ok hok⟩
    have flat : ∀ (M : List (Int × Int)) (t : Nat), t < M.length * 2 → (flatK fE 2 M.toArray)[t]! = (M.flatMap fE)[t]! := fun M t ht => by
      rw [get_flatK _ _ _ _ (by simpa using ht)]
      have hi : t / 2 < M.length := by omega
      have := flat_get fE hk M (t / 2) (t % 2) hi (by omega)
      rw [show t / 2 * 2 + t % 2 = t by omega] at this
      have e1 : M.toArray[t / 2]! = M[t / 2] := by simp [hi]
      rw [e1, List.getElem!_eq_getElem?_getD, List.getElem!_eq_getElem?_getD, this]
    have hH : HoldsK fE 2 w b 0 L.toArray := fun j hj => by
      have hj' : j < L.length * 2 := by simpa using hj
      have hja : j < arr.size := by rw [h5]; omega
      refine ⟨?_, ?_⟩
      · have e1 : w.cell? ⟨b, 0 + j, none⟩ = arr[j]? := by simp [World.cell?, hblk]
        have e2 : (L.flatMap fE)[j]? = arr[j]? := by
          rw [← h6, List.getElem?_take, if_pos (by omega)]; simp
        rw [e1, ← e2, flat L j hj', List.getElem!_eq_getElem?_getD, List.getElem?_eq_getElem (by rw [hfl]; exact hj')]
        rfl
      · simp [World.frozen?, hblk]
    have hcon := AnyQ.slices_SortFunc_total Tryz.sortE 2 Tryz.isAgg164 Tryz.sizeOf164 fE hk hone orderF swoOrder 165 #[] b 0 o.c L.toArray w eg hcmp hH hbl (by simp; omega) (fun x y hx hy => by
      rw [ltOf_order, decide_eq_false_iff_not] at hx hy
      exact Prod.ext (by omega) (by omega))
    change Calls Tryz.prog 167 _ _ _ at hcon
    have ha : o.v = .slice (some ⟨b, 0, none⟩) L.toArray.size o.c := by rw [Os.v, h1, hn]; simp
    rw [ha]
    refine hcon.mono ?_
    rintro e w' ⟨rfl, q, os, hw⟩
    have hw : w' = sortWorldK fE 2 w b 0 q (sortF L).toArray os := hw
    have hget : ∀ k, k < w.heap.size → w'.heap[k]? = if k = b then some (.cells (putCells id 0 (flatK fE 2 (sortF L).toArray) arr) 164 (0, 0)) else w.heap[k]? := fun k hk => by
      rw [hw]
      simp only [sortWorldK, grow, putRowK, putRow, mapBlock, show (Go.Sort.ahead w q).heap = w.heap from rfl]
      rw [Array.getElem?_append, if_pos (by simpa using hk), Array.getElem?_modify]
      by_cases e : b = k
      · subst e; rw [if_pos rfl, if_pos rfl, hblk]; rfl
      · rw [if_neg e, if_neg (fun x => e x.symm)]
    have hsz : w.heap.size ≤ w'.heap.size := by rw [hw]; simp [sortWorldK, grow, putRowK, putRow, mapBlock]
    refine ⟨.tuple #[], o.h.upd b (.cells (putCells id 0 (flatK fE 2 (sortF L).toArray) arr) 164 (0, 0)), [], rfl, ⟨?_, ?_, ?_, hsz, ?_, fun k c hc => ?_, fun j k c d hjk e1 e2 => ?_⟩, rfl, rfl, ?_, ?_, .inr ⟨b, _, h1, Hp.upd_self _ _ _, h3, h4, ?_, ?_⟩⟩
    · rw [hw]; rfl
    · rw [hw]; rfl
    · rw [hw]; rfl
    · rw [hw]; exact Nat.le_add_right _ _
    · match k, hc with
      | 0, hc =>
        simp only [sget, Option.some.injEq] at hc; subst hc
        intro k ob hk
        have hkw : w.heap[k]? = some ob := Hp.minus_le _ _ k ob hk
        have hlt := (Array.getElem?_eq_some_iff.1 hkw).1
        have hne : k ≠ b := fun e => by
          subst e
          rcases Hp.minus_dj (Hp.whole w) o.h k with e | e
          · rw [show (Hp.whole w).minus o.h k = some ob from hk] at e; cases e
          · rw [h2] at e; cases e
        rw [hget k hlt, if_neg hne]; exact hkw
      | 1, hc =>
        simp only [sget, Option.some.injEq] at hc; subst hc
        intro k ob hk
        have hk : (if k = b then some _ else o.h k) = some ob := hk
        by_cases e : k = b
        · subst e; rw [if_pos rfl] at hk; rw [hget k hbl, if_pos rfl]; exact hk
        · rw [if_neg e] at hk
          have hkw := hin k ob hk
          rw [hget k (Array.getElem?_eq_some_iff.1 hkw).1, if_neg e]; exact hkw
    · have main : ((Hp.whole w).minus o.h).dj (o.h.upd b (.cells (putCells id 0 (flatK fE 2 (sortF L).toArray) arr) 164 (0, 0))) := fun k => by
        rcases Hp.minus_dj (Hp.whole w) o.h k with e | e
        · exact .inl e
        · by_cases hkb : k = b
          · subst hkb; rw [h2] at e; cases e
          · right; simp only [Hp.upd, if_neg hkb]; exact e
      match j, k, e1, e2 with
      | 0, 0, _, _ => exact absurd rfl hjk
      | 1, 1, _, _ => exact absurd rfl hjk
      | 0, 1, e1, e2 =>
        simp only [sget, Option.some.injEq] at e1 e2; subst e1 e2; exact main
      | 1, 0, e1, e2 =>
        simp only [sget, Option.some.injEq] at e1 e2; subst e1 e2; exact main.symm
    · simp only [sortF_len]; exact hn
    · simp only [hfl, sortF_len, hn]
    · simp [putCells, h5]
    · have hss := sortF_len L
      apply List.ext_getElem?
      intro t
      rw [List.getElem?_take]
      split
      · rename_i ht
        have ht : t < o.n * 2 := ht
        have hta : t < arr.size := by rw [h5]; omega
        have e3 : (putCells id 0 (flatK fE 2 (sortF L).toArray) arr).toList[t]? = some ((flatK fE 2 (sortF L).toArray)[t]!) := by
          rw [Array.getElem?_toList]
          simp only [putCells, Array.getElem?_mapIdx, Array.getElem?_eq_getElem hta, Option.map_some]
          rw [if_pos ⟨Nat.zero_le _, by simp [hss]; omega⟩]
          rfl
        rw [e3, flat (sortF L) t (by omega), List.getElem!_eq_getElem?_getD, List.getElem?_eq_getElem (by rw [hfl]; omega)]
        rfl
      · rename_i ht
        rw [List.getElem?_eq_none]
        rw [hfl, hss]; have : ¬ t < o.n * 2 := ht; omega
end Go.Proofs.YtnlkffccobdbjaaGreat
namespace Go.Proofs.YtnlkffccobdbjaaGreat
open Go Go.RowKit Go.Dw

/-- runs of equal elements become one -/
def dd : List (Int × Int) → List (Int × Int)
  | [] => []
  | [x] => [x]
  | x :: y :: r => if x = y then dd (y :: r) else x :: dd (y :: r)
theorem dd_snoc : ∀ (P : List (Int × Int)) (a b : Int × Int), dd (P ++ [a, b]) = if b = a then dd (P ++ [a]) else dd (P ++ [a]) ++ [b]
  | [], a, b => by
    by_cases h : a = b
    · subst h; simp [dd]
    · simp [dd, h, Ne.symm h]
  | [x], a, b => by
    by_cases h1 : x = a <;> by_cases h : a = b
    · subst h h1; simp [dd]
    · subst h1; simp [dd, h, Ne.symm h]
    · subst h; simp [dd, h1]
    · simp [dd, h1, h, Ne.symm h]
  | x :: y :: P, a, b => by
    have ih := dd_snoc (y :: P) a b
    simp only [List.cons_append] at ih ⊢
    rw [dd, dd, ih]
    by_cases h : x = y <;> by_cases h2 : b = a <;> simp [h, h2]
theorem dd_step {L : List (Int × Int)} {k : Nat} (h : k + 1 < L.length) : dd (L.take (k + 2)) = if L[k + 1] = L[k] then dd (L.take (k + 1)) else dd (L.take (k + 1)) ++ [L[k + 1]] := by
  rw [List.take_succ_eq_append_getElem h, List.take_succ_eq_append_getElem (show k < L.length by omega), List.append_assoc]
  exact dd_snoc _ _ _
theorem dd_len : ∀ L : List (Int × Int), (dd L).length ≤ L.length
  | [] => Nat.le_refl _
  | [x] => Nat.le_refl _
  | x :: y :: r => by
    have := dd_len (y :: r)
    rw [dd]; split <;> simp at * <;> omega
theorem compact_spec {o : Dw.Os} {L : List (Int × Int)} (w : World) (hin : o.h.In w) (ho : OwnO fE 164 2 o L) (hl : L.length < 1000000) :
    CallsE Tryz.prog 168 #[o.v] w (RetM w o.h fun v h' cs => ∃ o', v = o'.v ∧ o'.h = h' ∧ cs = [] ∧ OwnO fE 164 2 o' (dd L)) := by
  have hn := ho.len
  have hf : ∀ x : Int × Int, (fE x).length = 2 := fun _ => rfl
  have hs := OwnO.sl hf (by decide) ho
  refine enterM (X := cx 61) (cxg _) (args := [o.v]) hin [.tmp 2] Tryz.func168 rfl rfl rfl rfl rfl ?_
  refine bsplitd (fun h2 => ?_) (fun h2 => ?_)
  · refine ⟨o.h, [], ⟨o, rfl, rfl, rfl, ?_⟩, fun w' h => h⟩
    have : dd L = L := by
      match L, hn with
      | [], _ => rfl
      | [x], _ => rfl
      | x :: y :: r, hn => simp at hn; omega
    rw [this]; exact ho
  refine NeedL.mk Nat (fun k => [(0, .v o.v), (3, .v (.int .i64 k))]) (fun _ => [.hp ((Hp.whole w).minus o.h), .hp o.h])
    (fun k => 1 ≤ k ∧ k ≤ o.n ∧ dd (L.take k) = L.take k) (fun k => o.n - k) 1 ⟨Nat.le_refl _, by omega, ?_⟩ (Ent.mk (fun _ _ h => h) rfl rfl) ?_
  · match L, hn with
    | [], hn => rfl
    | x :: r, hn => simp [dd]
  rintro k ⟨hk1, hkn, hdd⟩
  refine bsplitd (fun hlt => ?_) (fun hge => ?_)
  · obtain ⟨j, rfl⟩ : ∃ j, k = j + 1 := ⟨k - 1, by omega⟩
    have hj1 : j + 1 < L.length := by omega
    refine NeedD.by_order (cxg _) (.take 0 <| .take 1 <| .take 2 <| .take 3 <| .take 4 <| .take 5 <| .take 6 <| .take 7 <| .take 8 <| .take 9 <| .done) (by kernel_rfl) ?_
    refine idx (cxg _) (e := 164) rfl hs (j + 1) rfl hj1 (fun b1 o1 cs hcs hR hcell => ?_)
    subst hR
    refine ldn (cxg _) (i := 1) rfl hcell rfl ?_
    refine nw (by omega) (by omega) ?_
    refine idx (cxg _) (e := 164) rfl hs j (by omega) (by omega) (fun b1 o1 cs hcs hR hcell => ?_)
    subst hR
    refine ldn (cxg _) (i := 1) rfl hcell rfl ?_
    refine qEdgeEq ?_
    have hst := dd_step hj1
    refine bsplitd (fun heq => ?_) (fun hne => ?_)
    · have heq : L[j + 1] = L[j] := heq
      rw [if_pos heq] at hst
      obtain ⟨b, hb⟩ : ∃ b, o.a = some ⟨b, 0, none⟩ := by
        rcases ho.2.2 with ⟨h0, _⟩ | ⟨b, _, h1, _⟩
        · omega
        · exact ⟨b, h1⟩
      have hcap : o.n ≤ o.c := hs.cap
      refine slO (cxg _) (e := 164) rfl hb (j + 1) rfl (by omega) hcap ?_
      refine NeedL.mk (Nat × Nat × Dw.Os × List (Int × Int)) (fun g => [(0, .v o.v), (3, .v (.int .i64 g.1)), (4, .v (.slice (some ⟨b, 0 + (j + 1) * 2, none⟩) (o.n - (j + 1)) (o.c - (j + 1)))), (5, .v (.int .i64 g.2.1))]) (fun g => [.hp ((Hp.whole w).minus o.h), .hp g.2.2.1.h])
        (fun g => g.2.2.1.a = o.a ∧ g.2.2.1.n = o.n ∧ g.2.2.1.c = o.c ∧ OwnO fE 164 2 g.2.2.1 g.2.2.2 ∧ 1 ≤ g.2.1 ∧ g.2.1 ≤ o.n - (j + 1) ∧ g.1 ≤ j + g.2.1 ∧ g.2.2.2.take g.1 = dd (L.take (j + 1 + g.2.1)) ∧ g.2.2.2.drop (j + g.2.1) = L.drop (j + g.2.1))
        (fun g => o.n - g.2.1) (j + 1, 1, o, L) ⟨rfl, rfl, rfl, ho, Nat.le_refl _, by dsimp only; omega, by dsimp only; omega, by dsimp only; rw [hst, hdd], rfl⟩ (Ent.mk (fun _ _ h => h) rfl rfl) ?_
      clear hst hdd heq
      rintro ⟨k, i, o2, M⟩ ⟨ha2, hn2, hc2, ho2, hi1, hin2, hki, hM1, hM2⟩
      dsimp only at *
      have hML : M.length = L.length := by rw [← ho2.len, hn2, hn]
      have hs2 : Sl (encF fE) 2 o2.h (some ⟨b, 0 + (j + 1) * 2, none⟩) (o.n - (j + 1)) (o.c - (j + 1)) (M.drop (j + 1)) := by
        have := OwnO.sl hf (by decide) ho2
        rw [ha2, hb, hn2, hc2] at this
        exact this.drop (j + 1) (by omega)
      refine bsplitd (fun hlt => ?_) (fun hge => ?_)
      · have hil : j + 1 + i < L.length := by omega
        have hd1 : i < (M.drop (j + 1)).length := by simp; omega
        have hd0 : i - 1 < (M.drop (j + 1)).length := by simp; omega
        have get : ∀ t, j + i ≤ t → (ht : t < L.length) → (ht2 : t < M.length) → M[t] = L[t] := fun t h ht ht2 => by
          have e1 : (M.drop (j + i))[t - (j + i)]? = (L.drop (j + i))[t - (j + i)]? := by rw [hM2]
          rw [List.getElem?_drop, List.getElem?_drop, show j + i + (t - (j + i)) = t by omega, List.getElem?_eq_getElem ht, List.getElem?_eq_getElem ht2] at e1
          exact Option.some.inj e1
        have g1 : (M.drop (j + 1))[i] = L[j + 1 + i] := by rw [List.getElem_drop]; exact get _ (by omega) hil (by omega)
        have g0 : (M.drop (j + 1))[i - 1] = L[j + i] := by
          rw [List.getElem_drop]
          have := get (j + i) (Nat.le_refl _) (by omega) (by omega)
          rw [← this]; congr 1; omega
        have hM3 : M.drop (j + (i + 1)) = L.drop (j + (i + 1)) := by
          have h1 := congrArg (List.drop 1) hM2
          rw [List.drop_drop, List.drop_drop] at h1
          exact h1
        have hst := dd_step (L := L) (k := j + i) (by omega)
        have hst : dd (L.take (j + 1 + (i + 1))) = if L[j + 1 + i] = L[j + i] then dd (L.take (j + 1 + i)) else dd (L.take (j + 1 + i)) ++ [L[j + 1 + i]] := by
          have e1 : j + 1 + (i + 1) = j + i + 2 := by omega
          have e2 : j + 1 + i = j + i + 1 := by omega
          simp only [e1, e2]; exact hst
        refine NeedD.by_order (cxg _) (.take 0 <| .take 1 <| .take 2 <| .take 3 <| .take 4 <| .take 5 <| .take 6 <| .take 7 <| .take 8 <| .take 9 <| .done) (by kernel_rfl) ?_
        refine idx (cxg _) (e := 164) rfl hs2 i rfl hd1 (fun b1 o1 cs hcs hR hcell => ?_)
        subst hR
        refine ldn (cxg _) (i := 1) rfl hcell rfl ?_
        refine nw (by omega) (by omega) ?_
        refine idx (cxg _) (e := 164) rfl hs2 (i - 1) (by omega) hd0 (fun b1 o1 cs hcs hR hcell => ?_)
        subst hR
        refine ldn (cxg _) (i := 1) rfl hcell rfl ?_
        refine qEdgeNe ?_
        refine bsplitd (fun hne => ?_) (fun heq => ?_)
        · have hne : ¬ L[j + 1 + i] = L[j + i] := by rw [← g1, ← g0]; exact hne
          rw [if_neg hne] at hst
          refine idx (cxg _) (e := 164) rfl hs2 i rfl hd1 (fun b1 o1 cs hcs hR hcell => ?_)
          subst hR
          refine ldn (cxg _) (i := 1) rfl hcell rfl ?_
          have hov : o.v = o2.v := by simp only [Os.v, ha2, hn2, hc2]
          have hkM : k < M.length := by omega
          rw [hov]
          refine oidxN (cxg _) (e := 164) rfl ho2 k rfl hkM fun b3 hb3 => ?_
          refine ostoN (sz := 2) (cxg _) hf (i := 1) rfl hb3 ho2 hkM rfl rfl ((M.drop (j + 1))[i]) rfl rfl rfl fun o3 e1 e2 e3 ho3 => ?_
          refine nw (by omega) (by omega) ?_
          refine nw (by omega) (by omega) ?_
          refine ⟨(k + 1, i + 1, o3, M.set k ((M.drop (j + 1))[i])), ⟨by dsimp only; rw [e1, ha2], by dsimp only; rw [e2, hn2], by dsimp only; rw [e3, hc2], ho3, by dsimp only; omega, by dsimp only; omega, by dsimp only; omega, ?_, ?_⟩, by dsimp only; omega, Ent.mk (fun _ _ h => h) rfl rfl⟩
          · dsimp only
            rw [hst, ← hM1, List.take_succ_eq_append_getElem (by simpa using hkM), List.take_set_of_le (Nat.le_refl _), List.getElem_set_self, g1]
          · dsimp only
            rw [List.drop_set_of_lt (by omega)]
            exact hM3
        · have heq : L[j + 1 + i] = L[j + i] := by
            rw [← g1, ← g0]
            exact Decidable.not_not.1 heq
          rw [if_pos heq] at hst
          refine nw (by omega) (by omega) ?_
          refine ⟨(k, i + 1, o2, M), ⟨ha2, hn2, hc2, ho2, by dsimp only; omega, by dsimp only; omega, by dsimp only; omega, by dsimp only; rw [hst]; exact hM1, ?_⟩, by dsimp only; omega, Ent.mk (fun _ _ h => h) rfl rfl⟩
          exact hM3
      · rw [show L.take (j + 1 + i) = L from List.take_of_length_le (by omega)] at hM1
        have hkn' : k < M.length := by omega
        refine slO (cxg _) (e := 164) rfl hb k rfl (by omega) hcap ?_
        rw [← hn2]
        refine clrO (cxg _) (e := 164) rfl hf (i := 1) rfl (by rw [ha2]; exact hb) ho2 hkn' rfl fun h' ho' => ?_
        refine slT (cxg _) (e := 164) rfl k rfl (by omega) ?_
        refine ⟨h', [], ⟨⟨o2.a, k, o2.c, h'⟩, by rw [ha2, hc2]; rfl, rfl, rfl, ?_⟩, fun w' h => h⟩
        rw [← hM1]; exact ho'
    · refine nw (by omega) (by omega) ?_
      have hne : ¬ L[j + 1] = L[j] := hne
      rw [if_neg hne, hdd] at hst
      refine ⟨j + 2, ⟨by omega, by omega, ?_⟩, by omega, Ent.mk (fun _ _ h => h) rfl rfl⟩
      rw [hst, ← List.take_succ_eq_append_getElem hj1]
  · rw [List.take_of_length_le (by omega)] at hdd
    exact ⟨o.h, [], ⟨o, rfl, rfl, rfl, by rw [hdd]; exact ho⟩, fun w' h => h⟩
end Go.Proofs.YtnlkffccobdbjaaGreat
namespace Go.Proofs.YtnlkffccobdbjaaGreat
open Go Go.RowKit Go.Dw

def makeR (N : Int) (E : List (Int × Int)) : Int × List (Int × Int) × Int := if N < 0 ∨ N > 64 then (0, [], 2) else if E.any (outF N) then (0, [], 2) else (N, dd (sortF E), 0)
/-- a graph that is handed back, with an errno -/
def RetG (w : World) (r : Int × List (Int × Int) × Int) : Ending → World → Prop := Ret w fun v cs => ∃ o : Dw.Os, v = .tuple #[.agg #[.int .i64 r.1, o.v], .int .i64 r.2.2] ∧ cs = [.hp o.h] ∧ OwnO fE 164 2 o r.2.1
theorem make_spec {a : Option Addr} {n c : Nat} {E : List (Int × Int)} (N : Int) (w : World) (hL : Sl (encF fE) 2 (Hp.whole w) a n c E) (hl : E.length < 1000000) :
    CallsE Tryz.prog 149 #[.int .i64 N, .slice a n c] w (RetG w (makeR N E)) := by
  have hlen := hL.len
  refine enter (X := cx 42) (cxg _) (args := [.int .i64 N, .slice a n c]) [.cell 4 134, .tmp 5] Tryz.func149 rfl rfl rfl rfl rfl ?_
  intro b
  refine bsplitd (fun h1 => ?_) (fun h1 => ?_)
  · have : makeR N E = (0, [], 2) := by simp [makeR, h1]
    rw [this]
    exact ⟨[.hp Hp.emp], ⟨Os.nil, rfl, rfl, OwnO.nil _ _ _⟩, fun w' h => (h.pick [0] rfl rfl).emp⟩
  refine bsplitd (fun h2 => ?_) (fun h2 => ?_)
  · have : makeR N E = (0, [], 2) := by simp [makeR, h2]
    rw [this]
    exact ⟨[.hp Hp.emp], ⟨Os.nil, rfl, rfl, OwnO.nil _ _ _⟩, fun w' h => (h.pick [0] rfl rfl).emp⟩
  have hc1 : makeR N E = if E.any (outF N) then (0, [], 2) else (N, dd (sortF E), 0) := by simp only [makeR]; rw [if_neg (by omega)]
  refine NeedL.mk Nat (fun k => [(0, .v (.int .i64 N)), (1, .v (.slice a n c)), (4, .bx 1 0), (16, .v (.slice a n c)), (17, .v (.int .i64 n)), (18, .v (.int .i64 k))]) (fun _ => [.hp (Hp.whole w), .box b [.int .i64 0, .slice none 0 0] 134])
    (fun k => k ≤ n ∧ (E.take k).any (outF N) = false) (fun k => n - k) 0 ⟨Nat.zero_le _, rfl⟩ (Ent.mk (fun _ _ h => h) rfl rfl) ?_
  rintro k ⟨hk, ho⟩
  refine bsplitd (fun hlt => ?_) (fun hge => ?_)
  · have hlt' : k < E.length := by omega
    refine idx (cxg _) (e := 164) rfl hL k rfl hlt' (fun b1 o cs hcs hR hcell => ?_)
    subst hR
    refine ldn (cxg _) (i := 0) rfl hcell rfl ?_
    intro b2
    refine callV _ (fun w' _ => beyond_spec _ _ w') ?_
    refine bsplit (fun h4 => ?_) (fun h4 => ?_)
    · rw [hc1, any_hit hlt' (by simp [outF, h4])]
      exact ⟨[.hp Hp.emp], ⟨Os.nil, rfl, rfl, OwnO.nil _ _ _⟩, fun w' h => (h.pick [0] rfl rfl).emp⟩
    refine callV _ (fun w' _ => beyond_spec _ _ w') ?_
    refine bsplit (fun h5 => ?_) (fun h5 => ?_)
    · rw [hc1, any_hit hlt' (by simp [outF, h5])]
      exact ⟨[.hp Hp.emp], ⟨Os.nil, rfl, rfl, OwnO.nil _ _ _⟩, fun w' h => (h.pick [0] rfl rfl).emp⟩
    refine nw (by omega) (by omega) ?_
    exact ⟨k + 1, ⟨by omega, any_step hlt' ho (by simp [outF, h4, h5])⟩, by omega, Ent.mk (fun _ _ h => h.pick [0, 1] rfl rfl) rfl rfl⟩
  rw [List.take_of_length_le (by omega)] at ho
  rw [ho] at hc1
  refine call (fun w' hm => cloneEdges_spec w' (hL.mono (encF_mono _) (hm 0 _ rfl)) (by omega)) ?_
  rintro _ _ ⟨o1, rfl, rfl, ho1⟩
  refine callM (i := 2) rfl (fun w' hm => sort_spec w' (hm 2 _ rfl) ho1 hl) ?_
  rintro _ h2 _ ⟨rfl, rfl, ho2⟩
  refine callM (i := 2) rfl (fun w' hm => compact_spec (o := ⟨o1.a, o1.n, o1.c, h2⟩) w' (hm 2 _ rfl) ho2 (by rw [sortF_len]; exact hl)) ?_
  rintro _ _ _ ⟨o3, rfl, rfl, rfl, ho3⟩
  rw [hc1]
  exact ⟨[.hp o3.h], ⟨o3, rfl, rfl, ho3⟩, fun w' h => h.pick [0, 2] rfl rfl⟩
end Go.Proofs.YtnlkffccobdbjaaGreat
namespace Go.Proofs.YtnlkffccobdbjaaGreat
open Go Go.RowKit Go.Dw

def flip (e : Int × Int) : Int × Int := (e.2, e.1)
def revF (E : List (Int × Int)) : List (Int × Int) := sortF (E.map flip)
/-- the class of a node -/
def ofv (N : Nat) (E : List (Int × Int)) (x : Int) : Int := (ofF N E).getD x.toNat 0
def condE (N : Nat) (E M : List (Int × Int)) : List (Int × Int) := (M.filter fun e => decide (ofv N E e.1 ≠ ofv N E e.2)).map fun e => (ofv N E e.1, ofv N E e.2)
def condR (N : Nat) (E : List (Int × Int)) : Int × List (Int × Int) × Int := makeR (compF N E).length (condE N E E)
theorem condE_step {N : Nat} {E : List (Int × Int)} {k : Nat} (hk : k < E.length) : condE N E (E.take (k + 1)) = if ofv N E E[k].1 ≠ ofv N E E[k].2 then condE N E (E.take k) ++ [(ofv N E E[k].1, ofv N E E[k].2)] else condE N E (E.take k) := by
  unfold condE
  rw [List.take_succ_eq_append_getElem hk, List.filter_append, List.map_append]
  by_cases h : ofv N E E[k].1 = ofv N E E[k].2 <;> simp [h]
theorem condE_len (N : Nat) (E M : List (Int × Int)) : (condE N E M).length ≤ M.length := by
  unfold condE; rw [List.length_map]; exact List.length_filter_le _ _
end Go.Proofs.YtnlkffccobdbjaaGreat
namespace Go.Proofs.YtnlkffccobdbjaaGreat
open Go Go.RowKit Go.Dw

theorem checkF_ok {N : Int} {E : List (Int × Int)} (h : checkF N E = 0) : ∃ M : Nat, N = M ∧ Gr M E ∧ sortedF E = true := by
  unfold checkF at h
  split at h
  · cases h
  split at h
  · cases h
  split at h
  · cases h
  split at h
  · rename_i h1 h2 h3 h4
    obtain ⟨M, rfl⟩ : ∃ M : Nat, N = M := ⟨N.toNat, by omega⟩
    have hm : (M : Int) * M ≤ 64 * 64 := Int.mul_le_mul (by omega) (by omega) (by omega) (by omega)
    refine ⟨M, rfl, ⟨by omega, fun e he => ?_, by omega⟩, h4⟩
    have := List.any_eq_false.1 (Bool.eq_false_iff.2 h3) e he
    simp only [outF, beyondF, Bool.or_eq_true, decide_eq_true_eq, not_or] at this
    omega
  · cases h

/-- rows, with an errno -/
def RetR (w : World) (L : List (List Int)) (x : Int) : Ending → World → Prop := Ret w fun v cs => ∃ a n c h, v = .tuple #[.slice a n c, .int .i64 x] ∧ cs = [.hp h] ∧ Sl (encS (encF fI) 1) 1 h a n c L
def compR (N : Int) (E : List (Int × Int)) : List (List Int) := if checkF N E = 0 then compF N.toNat E else []
/-- rows that are read, their values listed -/
structure Rds (H : Hp) (vs : List Value) (LL : List (List Int)) : Prop where
  len : vs.length = LL.length
  get : ∀ (i : Nat) (v : Value) (L : List Int), vs[i]? = some v → LL[i]? = some L → encS (encF fI) 1 H L [v]
theorem Rds.nil (H : Hp) : Rds H [] [] := ⟨rfl, fun i v L h => by simp at h⟩
theorem Rds.push {H : Hp} {vs : List Value} {LL : List (List Int)} (h : Rds H vs LL) {v : Value} {L : List Int} (hv : encS (encF fI) 1 H L [v]) : Rds H (vs ++ [v]) (LL ++ [L]) := by
  refine ⟨by simp [h.len], fun i u M g1 g2 => ?_⟩
  rw [List.getElem?_append] at g1 g2
  by_cases hi : i < vs.length
  · rw [if_pos hi] at g1
    rw [if_pos (by rw [← h.len]; exact hi)] at g2
    exact h.get i u M g1 g2
  · rw [if_neg hi] at g1
    rw [if_neg (by rw [← h.len]; exact hi)] at g2
    have hz : i - vs.length = 0 := by have := (List.getElem?_eq_some_iff.1 g1).1; simp at this; omega
    rw [hz] at g1
    rw [← h.len, hz] at g2
    cases g1; cases g2
    exact hv
theorem Rds.sl {H : Hp} {vs : List Value} {LL : List (List Int)} (h : Rds H vs LL) {T' : Nat} {o : Dw.Os} (ho : OwnO fV T' 1 o vs) (hdj : o.h.dj H) : Sl (encS (encF fI) 1) 1 (o.h.join H) o.a o.n o.c LL := by
  have hs := OwnO.sl (f := fV) (fun _ => rfl) (by decide) ho
  refine ⟨by rw [hs.len, h.len], hs.cap, fun i hi => ?_⟩
  have hi' : i < vs.length := by rw [h.len]; exact hi
  obtain ⟨b, off, cs, h1, h2, h3, h4⟩ := hs.cells i hi'
  have hv := h.get i _ _ (List.getElem?_eq_getElem hi') (List.getElem?_eq_getElem hi)
  refine ⟨b, off, cs, h1, h2, ?_, fun j v hj => (Hp.le_join_l _ _).cell (h4 j v hj)⟩
  rw [show cs = [vs[i]] from h3]
  exact encS_mono (encF_mono _) 1 _ _ _ _ (Hp.le_join_r hdj) hv

def isSink (N : Nat) (E : List (Int × Int)) (k : Nat) : Bool := !(condR N E).2.1.any fun e => decide (e.1 = (k : Int))
def sinkK (N : Nat) (E : List (Int × Int)) (k : Nat) : List (List Int) := ((List.range k).filter (isSink N E)).map fun k => (compF N E).getD k []
def sinkF (N : Nat) (E : List (Int × Int)) : List (List Int) := sinkK N E (compF N E).length
theorem sinkK_succ (N : Nat) (E : List (Int × Int)) (k : Nat) : sinkK N E (k + 1) = if isSink N E k then sinkK N E k ++ [(compF N E).getD k []] else sinkK N E k := by
  unfold sinkK
  rw [List.range_succ, List.filter_append, List.map_append]
  by_cases h : isSink N E k = true <;> simp [h]
theorem sinkK_len (N : Nat) (E : List (Int × Int)) (k : Nat) : (sinkK N E k).length ≤ k := by
  unfold sinkK; rw [List.length_map]
  exact Nat.le_trans (List.length_filter_le _ _) (by simp)
theorem dd_sub : ∀ {L : List (Int × Int)} {x : Int × Int}, x ∈ dd L → x ∈ L
  | [_], x, h => h
  | y :: z :: r, x, h => by
    rw [dd] at h
    split at h
    · exact List.mem_cons_of_mem _ (dd_sub h)
    · rcases List.mem_cons.1 h with h | h
      · simp [h]
      · exact List.mem_cons_of_mem _ (dd_sub h)
theorem makeR_len (N : Int) (E : List (Int × Int)) : (makeR N E).2.1.length ≤ E.length := by
  unfold makeR
  split
  · simp
  split
  · simp
  · exact Nat.le_trans (dd_len _) (by rw [sortF_len]; exact Nat.le_refl _)
def sinkR (N : Int) (E : List (Int × Int)) : List (List Int) := if checkF N E = 0 then sinkF N.toNat E else []
end Go.Proofs.YtnlkffccobdbjaaGreat
namespace Go.Proofs.YtnlkffccobdbjaaGreat
open Go Go.RowKit Go.Dw

def dn (D : List Int) (x : Int) : Int := D.getD x.toNat (-1)
theorem dn_set {D : List Int} {x y v : Int} (hx : 0 ≤ x) (hl : x.toNat < D.length) (hy : 0 ≤ y) : dn (D.set x.toNat v) y = if y = x then v else dn D y := by
  unfold dn
  rw [List.getD_eq_getElem?_getD, List.getD_eq_getElem?_getD, List.getElem?_set]
  by_cases h : x = y
  · subst h; simp [hl]
  · have : x.toNat ≠ y.toNat := by omega
    simp [this, Ne.symm h]
def cneg (D : List Int) : Nat := (D.filter fun v => decide (v < 0)).length
theorem cneg_set : ∀ {D : List Int} {k : Nat} {u v : Int}, D[k]? = some u → u < 0 → 0 ≤ v → cneg (D.set k v) + 1 = cneg D
  | x :: r, 0, u, v, h, hu, hv => by simp at h; subst h; simp [cneg, hu, show ¬ v < 0 by omega]
  | x :: r, k + 1, u, v, h, hu, hv => by
    have := cneg_set (D := r) (k := k) (by simpa using h) hu hv
    by_cases hx : x < 0 <;> simp [cneg, hx] at * <;> omega
structure Db (N : Nat) (X : List (Int × Int)) (src : Int) (D : List Int) (Q : List Int) (k : Int) (rest : List Int) : Prop where
  len : D.length = N
  q : ∀ x ∈ Q, 0 ≤ x ∧ x < N ∧ dn D k ≤ dn D x
  srt : Q.Pairwise fun x y => dn D x ≤ dn D y
  up : ∀ x : Int, 0 ≤ x → x < N → dn D x ≤ dn D k + 1
  low : ∀ x : Int, 0 ≤ x → x < N → -1 ≤ dn D x
  fnd : ∀ x : Int, 0 ≤ x → x < N → 0 ≤ dn D x → wlk X (dn D x).toNat src x = true
  bnd : ∀ x : Int, 0 ≤ x → x < N → dn D x + cneg D + 1 ≤ N
  s0 : dn D src = 0
  k0 : 0 ≤ k ∧ k < N ∧ 0 ≤ dn D k
  clo : ∀ e ∈ X, 0 ≤ dn D e.1 → e.1 ∈ Q ∨ (0 ≤ dn D e.2 ∧ dn D e.2 ≤ dn D e.1 + 1) ∨ (e.1 = k ∧ e.2 ∈ rest)
  kk : ∀ t ∈ rest, (k, t) ∈ X
theorem Db.init {N : Nat} {X : List (Int × Int)} (hG : Gr N X) {src : Int} (hs : 0 ≤ src ∧ src < N) : Db N X src ((List.replicate N (-1)).set src.toNat 0) [src] src [] := by
  have hl : src.toNat < (List.replicate N (-1 : Int)).length := by simp; omega
  have hv : ∀ x : Int, 0 ≤ x → dn ((List.replicate N (-1)).set src.toNat 0) x = if x = src then 0 else -1 := fun x hx => by
    rw [dn_set hs.1 hl hx]
    split
    · rfl
    · unfold dn; rw [List.getD_eq_getElem?_getD, List.getElem?_replicate]; split <;> rfl
  have hs0 := hv src hs.1
  rw [if_pos rfl] at hs0
  have hc : cneg ((List.replicate N (-1 : Int)).set src.toNat 0) + 1 = N := by
    rw [cneg_set (u := -1) (by rw [List.getElem?_replicate, if_pos (by omega)]) (by omega) (by omega)]
    unfold cneg
    rw [List.filter_eq_self.2 (fun a ha => by rw [List.eq_of_mem_replicate ha]; rfl), List.length_replicate]
  refine ⟨by simp, fun x hx => ?_, by simp, fun x h0 h1 => ?_, fun x h0 h1 => ?_, fun x h0 h1 h2 => ?_, fun x h0 h1 => ?_, hs0, ⟨hs.1, hs.2, by omega⟩, fun e he h => ?_, by simp⟩
  · simp at hx; subst hx; exact ⟨hs.1, hs.2, Int.le_refl _⟩
  · rw [hv x h0, hs0]; split <;> omega
  · rw [hv x h0]; split <;> omega
  · rw [hv x h0] at h2 ⊢
    split at h2
    · rename_i e; subst e; simp [wlk]
    · omega
  · rw [hv x h0]; split <;> omega
  · rw [hv _ (hG.rng e he).1] at h
    split at h
    · rename_i e'; exact .inl (by simp [e'])
    · omega
theorem Db.pop {N : Nat} {X : List (Int × Int)} {src : Int} {D Q : List Int} {k0 h : Int} {n : Nat} (hB : Db N X src D (h :: Q) k0 []) (hn : h = n) : Db N X src D Q h (succs X n) := by
  obtain ⟨h1, h2, h3⟩ := hB.q h (by simp)
  have hs := List.pairwise_cons.1 hB.srt
  have hk := hB.k0
  refine ⟨hB.len, fun x hx => ⟨(hB.q x (by simp [hx])).1, (hB.q x (by simp [hx])).2.1, hs.1 x hx⟩, hs.2, fun x h4 h5 => ?_, hB.low, hB.fnd, hB.bnd, hB.s0, ⟨h1, h2, by omega⟩, fun e he hd => ?_, fun t ht => by rw [hn]; exact mem_succs.1 ht⟩
  · have := hB.up x h4 h5; omega
  · rcases hB.clo e he hd with h4 | h4 | h4
    · rcases List.mem_cons.1 h4 with h5 | h5
      · refine .inr (.inr ⟨h5, mem_succs.2 ?_⟩)
        rw [← hn, ← h5]; exact he
      · exact .inl h5
    · exact .inr (.inl h4)
    · simp at h4
theorem Db.skip {N : Nat} {X : List (Int × Int)} (hG : Gr N X) {src : Int} {D Q : List Int} {k t : Int} {rest : List Int} (hB : Db N X src D Q k (t :: rest)) (ht : 0 ≤ dn D t) : Db N X src D Q k rest := by
  have hr := hG.rng _ (hB.kk t (by simp))
  refine ⟨hB.len, hB.q, hB.srt, hB.up, hB.low, hB.fnd, hB.bnd, hB.s0, hB.k0, fun e he hd => ?_, fun u hu => hB.kk u (by simp [hu])⟩
  rcases hB.clo e he hd with h4 | h4 | ⟨h4, h5⟩
  · exact .inl h4
  · exact .inr (.inl h4)
  · rcases List.mem_cons.1 h5 with h6 | h6
    · refine .inr (.inl ?_)
      rw [h6, h4]; exact ⟨ht, hB.up t hr.2.2.1 hr.2.2.2⟩
    · exact .inr (.inr ⟨h4, h6⟩)
theorem Db.mark {N : Nat} {X : List (Int × Int)} (hG : Gr N X) {src : Int} {D Q : List Int} {k t : Int} {rest : List Int} (hB : Db N X src D Q k (t :: rest)) (ht : dn D t < 0) : Db N X src (D.set t.toNat (dn D k + 1)) (Q ++ [t]) k rest := by
  have hkt := hB.kk t (by simp)
  obtain ⟨_, _, r3, r4⟩ := hG.rng _ hkt
  simp only at r3 r4
  obtain ⟨k1, k2, k3⟩ := hB.k0
  have hl : t.toNat < D.length := by rw [hB.len]; omega
  have hv : ∀ x : Int, 0 ≤ x → dn (D.set t.toNat (dn D k + 1)) x = if x = t then dn D k + 1 else dn D x := fun x hx => dn_set r3 hl hx
  have hkne : k ≠ t := fun e => by rw [e] at k3; omega
  have hk := hv k k1
  rw [if_neg hkne] at hk
  have hc : cneg (D.set t.toNat (dn D k + 1)) + 1 = cneg D := by
    refine cneg_set (u := dn D t) ?_ ht (by omega)
    unfold dn; rw [List.getD_eq_getElem?_getD, List.getElem?_eq_getElem hl]; rfl
  have hsrc : dn (D.set t.toNat (dn D k + 1)) src = 0 := by
    by_cases h0 : 0 ≤ src
    · rw [hv src h0, if_neg (fun e => by have := hB.s0; rw [e] at this; omega)]; exact hB.s0
    · have h1 : src.toNat = 0 := by omega
      have h2 := hB.s0
      unfold dn at h2 ⊢
      rw [h1, List.getD_eq_getElem?_getD] at h2 ⊢
      rw [List.getElem?_set]
      by_cases h3 : t.toNat = 0
      · exfalso
        unfold dn at ht
        rw [h3, List.getD_eq_getElem?_getD, h2] at ht
        omega
      · rw [if_neg h3]; exact h2
  have ne : ∀ x ∈ Q, x ≠ t := fun x hx e => by have := hB.q x hx; rw [e] at this; omega
  refine ⟨by rw [List.length_set]; exact hB.len, fun x hx => ?_, ?_, fun x h0 h1 => ?_, fun x h0 h1 => ?_, fun x h0 h1 h2 => ?_, fun x h0 h1 => ?_, hsrc, ⟨k1, k2, by omega⟩, fun e he hd => ?_, fun u hu => hB.kk u (by simp [hu])⟩
  · rcases List.mem_append.1 hx with h1 | h1
    · have h2 := hB.q x h1
      refine ⟨h2.1, h2.2.1, ?_⟩
      rw [hk, hv x h2.1]; split <;> omega
    · simp at h1; subst h1
      refine ⟨r3, r4, ?_⟩
      rw [hk, hv x r3, if_pos rfl]; omega
  · refine List.pairwise_append.2 ⟨?_, by simp, fun x hx y hy => ?_⟩
    · refine List.Pairwise.imp_of_mem (fun {x y} hx hy h => ?_) hB.srt
      rw [hv x (hB.q x hx).1, hv y (hB.q y hy).1, if_neg (ne x hx), if_neg (ne y hy)]
      exact h
    · simp at hy; subst hy
      rw [hv x (hB.q x hx).1, hv y r3, if_pos rfl, if_neg (ne x hx)]
      exact hB.up x (hB.q x hx).1 (hB.q x hx).2.1
  · rw [hk, hv x h0]; have := hB.up x h0 h1; split <;> omega
  · rw [hv x h0]; have := hB.low x h0 h1; split <;> omega
  · rw [hv x h0] at h2 ⊢
    split
    · rename_i e; subst e
      rw [show (dn D k + 1).toNat = (dn D k).toNat + 1 by omega]
      exact wlk_succ.2 ⟨k, hkt, hB.fnd k k1 k2 k3⟩
    · rename_i e; rw [if_neg e] at h2; exact hB.fnd x h0 h1 h2
  · rw [hv x h0]
    have h2 := hB.bnd x h0 h1
    have h3 := hB.bnd k k1 k2
    split <;> omega
  · have he' := hG.rng e he
    rw [hv e.1 he'.1] at hd
    by_cases hx : e.1 = t
    · exact .inl (by simp [hx])
    · rw [if_neg hx] at hd
      rcases hB.clo e he hd with h1 | h1 | ⟨h1, h2⟩
      · exact .inl (by simp [h1])
      · refine .inr (.inl ?_)
        rw [hv e.2 he'.2.2.1, hv e.1 he'.1, if_neg hx]
        split
        · rename_i e2; rw [e2] at h1; omega
        · exact h1
      · rcases List.mem_cons.1 h2 with h3 | h3
        · refine .inr (.inl ?_)
          rw [hv e.2 he'.2.2.1, if_pos h3, hv e.1 he'.1, if_neg hx, h1]; omega
        · exact .inr (.inr ⟨h1, h3⟩)
def dz : Option Nat → Int
  | none => -1
  | some s => s
def dstL (N : Nat) (X : List (Int × Int)) (src : Int) : List Int := (List.range N).map fun (k : Nat) => dz (dst N X src k)
theorem Db.fin {N : Nat} {X : List (Int × Int)} {src : Int} {D : List Int} {k : Int} (hB : Db N X src D [] k []) : D = dstL N X src := by
  have lowr : ∀ s (x : Int), wlk X s src x = true → 0 ≤ dn D x ∧ dn D x ≤ s := by
    intro s
    induction s with
    | zero => intro x h; simp only [wlk, beq_iff_eq] at h; subst h; have := hB.s0; omega
    | succ s ih =>
      intro x h
      obtain ⟨c, h1, h2⟩ := wlk_succ.1 h
      obtain ⟨h3, h4⟩ := ih c h2
      rcases hB.clo _ h1 h3 with h5 | h5 | ⟨_, h5⟩
      · cases h5
      · simp only at h5; omega
      · cases h5
  apply List.ext_getElem
  · simp [dstL, hB.len]
  · intro i h1 h2
    have hi : i < N := by rw [← hB.len]; exact h1
    simp only [dstL, List.getElem_map, List.getElem_range]
    have e1 : D[i] = dn D i := by simp [dn, h1]
    rw [e1]
    by_cases h0 : 0 ≤ dn D i
    · have hw := hB.fnd i (by omega) (by omega) h0
      have hb := hB.bnd i (by omega) (by omega)
      obtain ⟨t, ht⟩ := least_ex (p := fun s => wlk X s src i) (n := N) (s := (dn D i).toNat) (by omega) hw
      have ht' := least_some ht
      have hl := lowr t i ht'.2.1
      have : ¬ (dn D i).toNat < t := fun h => by have := ht'.2.2 _ h; rw [hw] at this; cases this
      unfold dst
      rw [ht]
      simp only [dz]
      omega
    · have hlo := hB.low i (by omega) (by omega)
      have : dst N X src i = none := by
        cases hd : dst N X src i with
        | none => rfl
        | some s => have := lowr s i (least_some hd).2.1; omega
      rw [this]
      simp only [dz]; omega
/-- a walk, turned round -/
theorem wlk_flip {E F : List (Int × Int)} (h : ∀ e, e ∈ F ↔ flip e ∈ E) : ∀ (s : Nat) (a b : Int), wlk F s a b = true → wlk E s b a = true
  | 0, a, b, hw => by simp only [wlk, beq_iff_eq] at hw ⊢; exact hw.symm
  | s + 1, a, b, hw => by
    obtain ⟨c, h1, h2⟩ := wlk_succ.1 hw
    have h3 := wlk_flip h s a c h2
    have h4 : (b, c) ∈ E := (h (c, b)).1 h1
    have h5 : wlk E 1 b c = true := wlk_succ.2 ⟨b, h4, by simp [wlk]⟩
    have := wlk_add h5 h3
    rw [Nat.add_comm] at this
    exact this
theorem sortF_mem {L : List (Int × Int)} {x : Int × Int} : x ∈ sortF L ↔ x ∈ L := List.Perm.mem_iff (List.mergeSort_perm _ _)
theorem revF_mem {E : List (Int × Int)} {e : Int × Int} : e ∈ revF E ↔ flip e ∈ E := by
  unfold revF
  rw [sortF_mem, List.mem_map]
  constructor
  · rintro ⟨x, h, rfl⟩; exact h
  · intro h; exact ⟨_, h, rfl⟩
theorem revF_gr {N : Nat} {E : List (Int × Int)} (hG : Gr N E) : Gr N (revF E) := by
  refine ⟨hG.hN, fun e he => ?_, by unfold revF; rw [sortF_len, List.length_map]; exact hG.len⟩
  have := hG.rng _ (revF_mem.1 he)
  simp only [flip] at this
  omega
theorem dst_flip {N : Nat} {E : List (Int × Int)} (a b : Int) : dst N (revF E) a b = dst N E b a := by
  unfold dst
  congr 1
  funext s
  rw [Bool.eq_iff_iff]
  constructor
  · exact wlk_flip (fun e => revF_mem) s a b
  · refine wlk_flip (fun e => ?_) s b a
    rw [revF_mem]; rfl
/-- the distances to b -/
def farF (N : Nat) (E : List (Int × Int)) (b : Int) : List Int := (List.range N).map fun (k : Nat) => dz (dst N E k b)
theorem farF_eq {N : Nat} {E : List (Int × Int)} (b : Int) : dstL N (revF E) b = farF N E b := by
  unfold dstL farF
  apply List.map_congr_left
  intro k _
  rw [dst_flip]
end Go.Proofs.YtnlkffccobdbjaaGreat
namespace Go.Proofs.YtnlkffccobdbjaaGreat
open Go Go.RowKit Go.Dw

theorem dn_get {D : List Int} {x : Int} (h : x.toNat < D.length) : D[x.toNat] = dn D x := by unfold dn; simp [h]
theorem Ok.same {w0 w : World} {s : List Ch} {i : Nat} {c d : Ch} (hi : sget s i = some c) (hd : d.h = c.h) (hok : Ok w0 s w) : Ok w0 (sset s i d) w := by
  refine ⟨hok.os, hok.tape, hok.output, hok.size, hok.drawn, fun k x hx => ?_, fun j k x y hjk h1 h2 => ?_⟩
  · rw [sget_put hi] at hx
    split at hx
    · cases hx; rw [hd]; exact hok.mem i c hi
    · exact hok.mem k x hx
  · rw [sget_put hi] at h1 h2
    split at h1 <;> split at h2
    · omega
    · cases h1; rw [hd]; exact hok.disj _ _ _ _ (by omega) hi h2
    · cases h2; rw [hd]; exact hok.disj _ _ _ _ (by omega) h1 hi
    · exact hok.disj _ _ _ _ hjk h1 h2
/-- a new slice's block is owned -/
theorem OwnO.box {α : Type} {f : α → List Value} {sz : Nat} (hf : ∀ x, (f x).length = sz) {b T : Nat} {cs : List Value} (L : List α) {n : Nat} (hL : cs = L.flatMap f) (hn : n = L.length) (hl : L.length < 1000000) :
    OwnO f T sz ⟨some ⟨b, 0, none⟩, n, n, (Ch.box b cs T).h⟩ L := by
  subst hL hn
  have hl := flatLen hf L
  refine ⟨rfl, hl, .inr ⟨b, _, rfl, Hp.one_self _ _, Nat.le_refl _, by unfold maxLen; dsimp only; omega, by simpa using hl, ?_⟩⟩
  exact List.take_of_length_le (Nat.le_of_eq hl)

end Go.Proofs.YtnlkffccobdbjaaGreat
namespace Go.Proofs.YtnlkffccobdbjaaGreat
open Go Go.RowKit Go.Dw

theorem dst_some {N : Nat} {E : List (Int × Int)} {a b : Int} {s : Nat} (h : dst N E a b = some s) : s < N ∧ wlk E s a b = true ∧ ∀ t, t < s → wlk E t a b = false := least_some h
theorem dst_of {N : Nat} {E : List (Int × Int)} (hG : Gr N E) {a b : Int} (ha : 0 ≤ a ∧ a < N) {s : Nat} (h : wlk E s a b = true) (hm : ∀ t, t < s → wlk E t a b = false) : dst N E a b = some s := by
  have hr := (rch_iff hG ha).2 ⟨s, h⟩
  unfold rch at hr
  obtain ⟨t, ht⟩ := Option.isSome_iff_exists.1 hr
  obtain ⟨_, h2, h3⟩ := dst_some ht
  rw [ht]
  congr 1
  have c1 : ¬ t < s := fun h4 => by rw [hm t h4] at h2; cases h2
  have c2 : ¬ s < t := fun h4 => by rw [h3 s h4] at h; cases h
  omega
theorem dst_self {N : Nat} {E : List (Int × Int)} (hG : Gr N E) {a : Int} (ha : 0 ≤ a ∧ a < N) : dst N E a a = some 0 := dst_of hG ha (by simp [wlk]) (fun t h => by omega)
theorem dst_zero {N : Nat} {E : List (Int × Int)} {a b : Int} (h : dst N E a b = some 0) : a = b := by
  have := (dst_some h).2.1
  simpa [wlk] using this
theorem find_hit {α : Type} {p : α → Bool} : ∀ {L : List α} {j : Nat} (h : j < L.length), (∀ t ∈ L.take j, p t = false) → p L[j] = true → L.find? p = some L[j]
  | x :: r, 0, _, _, e => List.find?_cons_of_pos e
  | x :: r, j + 1, h, hn, e => by
    rw [List.find?_cons_of_neg (by rw [hn x (by simp)]; simp)]
    exact find_hit (L := r) (j := j) (by simpa using h) (fun t ht => hn t (by simp [ht])) e
/-- one step nearer -/
def near (N : Nat) (E : List (Int × Int)) (b : Int) (k : Int) (t : Int) : Bool := decide (dz (dst N E t b) = dz (dst N E k b) - 1)
def stp (N : Nat) (E : List (Int × Int)) (b : Int) (k : Int) : Int := ((succs E k.toNat).find? (near N E b k)).getD k
theorem near_ex {N : Nat} {E : List (Int × Int)} (hG : Gr N E) {k b : Int} (hk : 0 ≤ k ∧ k < N) {s : Nat} (h : dst N E k b = some (s + 1)) : ∃ t ∈ succs E k.toNat, near N E b k t = true := by
  obtain ⟨_, h2, h3⟩ := dst_some h
  obtain ⟨c, h4, h5⟩ := wlk_split (s := 1) (t := s) (by rw [Nat.add_comm]; exact h2)
  obtain ⟨d, h6, h7⟩ := wlk_succ.1 h4
  have h8 : k = d := by simpa [wlk] using h7
  subst h8
  have hc := hG.rng _ h6
  refine ⟨c, mem_succs.2 (by rw [Int.toNat_of_nonneg hk.1]; exact h6), ?_⟩
  have hd : dst N E c b = some s := dst_of hG ⟨hc.2.2.1, hc.2.2.2⟩ h5 (fun t ht => by
    cases hw : wlk E t c b with
    | false => rfl
    | true =>
      have := wlk_add h4 hw
      rw [Nat.add_comm, h3 (t + 1) (by omega)] at this
      cases this)
  unfold near
  rw [h, hd]
  simp [dz]
theorem near_dst {N : Nat} {E : List (Int × Int)} {k b t : Int} {s : Nat} (h : dst N E k b = some (s + 1)) (hn : near N E b k t = true) : dst N E t b = some s := by
  unfold near at hn
  rw [h] at hn
  cases hd : dst N E t b with
  | none => rw [hd] at hn; simp [dz] at hn <;> omega
  | some u => rw [hd] at hn; simp [dz] at hn; congr 1 <;> omega
/-- the path of s steps from k to b -/
def pth (N : Nat) (E : List (Int × Int)) (b : Int) : Nat → Int → List Int
  | 0, k => [k]
  | s + 1, k => k :: pth N E b s (stp N E b k)
theorem pth_len (N : Nat) (E : List (Int × Int)) (b : Int) : ∀ (s : Nat) (k : Int), (pth N E b s k).length = s + 1
  | 0, k => rfl
  | s + 1, k => by simp [pth, pth_len N E b s]
theorem pth_cons (N : Nat) (E : List (Int × Int)) (b : Int) (s : Nat) (k : Int) : pth N E b s k = k :: (pth N E b s k).tail := by cases s <;> rfl
def pathF (N : Nat) (E : List (Int × Int)) (a b : Int) : List Int := match dst N E a b with | none => [] | some s => pth N E b s a
theorem farF_get {N : Nat} {E : List (Int × Int)} {b x : Int} (hx : 0 ≤ x ∧ x < N) (h : x.toNat < (farF N E b).length) : (farF N E b)[x.toNat] = dz (dst N E x b) := by
  simp only [farF, List.getElem_map, List.getElem_range]
  rw [Int.toNat_of_nonneg hx.1]

end Go.Proofs.YtnlkffccobdbjaaGreat
namespace Go.Proofs.YtnlkffccobdbjaaGreat
open Go Go.RowKit Go.Dw

def ascF (L : List Int) : Bool := (List.range (L.length - 1)).all fun i => decide (L.getD i 0 < L.getD (i + 1) 0)
def readyF (N : Int) (E : List (Int × Int)) (L : List Int) : Int := if checkF N E ≠ 0 then checkF N E else if L.any (beyondF N) then 2 else if ascF L then 0 else 8
def singleF (N : Int) (E : List (Int × Int)) : List Int → Int
  | [] => 0
  | k :: r => if readyF N E [k] ≠ 0 then readyF N E [k] else singleF N E r
theorem ready_one {N : Int} {E : List (Int × Int)} {k : Int} (h : readyF N E [k] = 0) : ∃ M : Nat, N = M ∧ Gr M E ∧ 0 ≤ k ∧ k < M := by
  unfold readyF at h
  split at h
  · rename_i h1; exact absurd h h1
  rename_i h1
  obtain ⟨M, rfl, hG, _⟩ := checkF_ok (Decidable.not_not.1 h1)
  split at h
  · cases h
  rename_i h2
  simp only [List.any_cons, List.any_nil, Bool.or_false, beyondF, Bool.or_eq_true, decide_eq_true_eq, not_or] at h2
  exact ⟨M, rfl, hG, by omega, by omega⟩
/-- a list, with an errno -/
def RetI (w : World) (L : List Int) (x : Int) : Ending → World → Prop := Ret w fun v cs => ∃ o : Dw.Os, v = .tuple #[o.v, .int .i64 x] ∧ cs = [.hp o.h] ∧ OwnO fI 3 1 o L
/-- beside each node but the root what bes says -/
def besK (N k : Nat) (root : Int) (bes : Nat → Int) : List Int := (List.range N).map fun i => if i < k then (if (i : Int) = root then -1 else bes i) else 0
theorem besK_zero (N : Nat) (root : Int) (bes : Nat → Int) : besK N 0 root bes = List.replicate N 0 := by
  apply List.ext_getElem
  · simp [besK]
  · intro i h1 h2; simp [besK]
theorem besK_succ (N k : Nat) (root : Int) (bes : Nat → Int) : besK N (k + 1) root bes = (besK N k root bes).set k (if (k : Int) = root then -1 else bes k) := by
  apply List.ext_getElem
  · simp [besK]
  · intro i h1 h2
    rw [List.getElem_set]
    simp only [besK, List.getElem_map, List.getElem_range]
    by_cases h : k = i
    · subst h; simp
    · rw [if_neg h]
      by_cases h3 : i < k
      · rw [if_pos h3, if_pos (by omega)]
      · rw [if_neg h3, if_neg (by omega)]
theorem set_set {α : Type} (L : List α) (k : Nat) (x y : α) : (L.set k x).set k y = L.set k y := List.set_set ..
def treeR (N : Int) (E : List (Int × Int)) (root : Int) (bes : Nat → Int) : List Int := if singleF N E [root] ≠ 0 then [] else besK N.toNat N.toNat root bes
end Go.Proofs.YtnlkffccobdbjaaGreat
namespace Go.Proofs.YtnlkffccobdbjaaGreat
open Go Go.RowKit Go.Dw

def lastBut (L : List Int) : Int := if L.length < 2 then -1 else L.getD (L.length - 2) 0
def second (L : List Int) : Int := if L.length < 2 then -1 else L.getD 1 0
theorem pathF_len {N : Nat} {E : List (Int × Int)} {a b : Int} (hN : N ≤ 64) : (pathF N E a b).length ≤ 64 := by
  unfold pathF
  cases h : dst N E a b with
  | none => simp
  | some s => simp only [pth_len]; have := (dst_some h).1; omega
end Go.Proofs.YtnlkffccobdbjaaGreat
namespace Go.Proofs.YtnlkffccobdbjaaGreat
open Go Go.RowKit Go.Dw
/-- the cycle through an edge -/
def cycL (N : Nat) (E : List (Int × Int)) (e : Int × Int) : List Int := e.1 :: (pathF N E e.2 e.1).take ((pathF N E e.2 e.1).length - 1)
def cycB (l m : List Int) : Bool := decide (l.length < m.length) || (decide (l.length = m.length) && decide (cmpL l m < 0))
def cycStep (N : Nat) (E : List (Int × Int)) (b : Option (List Int)) (e : Int × Int) : Option (List Int) :=
  match dst N E e.2 e.1 with
  | none => b
  | some _ => match b with
    | none => some (cycL N E e)
    | some m => if cycB (cycL N E e) m then some (cycL N E e) else some m
def cycK (N : Nat) (E M : List (Int × Int)) : Option (List Int) := M.foldl (cycStep N E) none
theorem cycK_succ {N : Nat} {E : List (Int × Int)} {k : Nat} (hk : k < E.length) : cycK N E (E.take (k + 1)) = cycStep N E (cycK N E (E.take k)) E[k] := by
  unfold cycK; rw [List.take_succ_eq_append_getElem hk, List.foldl_append]; rfl
theorem cycL_len {N : Nat} {E : List (Int × Int)} {e : Int × Int} (hN : N ≤ 64) : (cycL N E e).length ≤ 65 := by
  have := pathF_len (E := E) (a := e.2) (b := e.1) hN
  simp only [cycL, List.length_cons, List.length_take]; omega
theorem cycK_len {N : Nat} {E : List (Int × Int)} (hN : N ≤ 64) : ∀ (M : List (Int × Int)) (b : Option (List Int)), (∀ m, b = some m → m.length ≤ 65) → ∀ m, M.foldl (cycStep N E) b = some m → m.length ≤ 65
  | [], _, h, m, e => h m e
  | x :: r, b, h, m, e => by
    refine cycK_len hN r (cycStep N E b x) (fun m' e' => ?_) m e
    unfold cycStep at e'
    split at e'
    · exact h m' e'
    · split at e'
      · cases e'; exact cycL_len hN
      · split at e'
        · cases e'; exact cycL_len hN
        · cases e'; exact h _ rfl
def cycR (N : Int) (E : List (Int × Int)) : List Int := if checkF N E = 0 then (cycK N.toNat E E).getD [] else []
def cycC (N : Int) (E : List (Int × Int)) : Int := if checkF N E = 0 then (match cycK N.toNat E E with | none => 10 | some _ => 0) else checkF N E
end Go.Proofs.YtnlkffccobdbjaaGreat
