/- The library's SortFunc on edges by the graph's order, as a contract that says what the slice holds after. Its premises are its own. -/
import Derived.Test.YtdjhgcpmipglfaaGa
import Derived.Test.YtdjhgcpmipglfaaSo
namespace Go.Proofs.Ytdjhgcpmipglfaa
open Go Go.RowKit Go.Dw Go.Sort Go.Lib

theorem cmpI_swap (x y : Int) : cmpI x y < 0 ↔ x < y := by unfold cmpI; split <;> (try split) <;> omega
theorem order_lt (a b : Int × Int) : orderF a b < 0 ↔ a.1 < b.1 ∨ (a.1 = b.1 ∧ a.2 < b.2) := by
  unfold orderF cmpI
  repeat (first | split | omega)
theorem ltOf_order (a b : Int × Int) : ltOf orderF a b = decide (a.1 < b.1 ∨ (a.1 = b.1 ∧ a.2 < b.2)) := by
  unfold ltOf; simp only [order_lt]
theorem swoOrder : SWO (ltOf orderF) where
  irrefl x := by rw [ltOf_order]; simp
  trans x y z h1 h2 := by rw [ltOf_order] at *; simp only [decide_eq_true_eq] at *; omega
  ntrans x y z h1 h2 := by rw [ltOf_order] at *; simp only [decide_eq_false_iff_not] at *; omega
/-- a world that holds another whole one is that one, grown -/
theorem grown_of_ok {W w' : World} (h : Ok W [.hp (Hp.whole W)] w') : ∃ q os, w' = grow (W.drewN q) os := by
  refine ⟨w'.drawn - W.drawn, w'.heap.extract W.heap.size w'.heap.size, ?_⟩
  have hm := h.mem 0 _ rfl
  have hs := h.size
  have h1 : w'.heap = W.heap ++ w'.heap.extract W.heap.size w'.heap.size := by
    apply Array.ext_getElem?
    intro k
    rw [Array.getElem?_append]
    split
    · rename_i hk
      have : (Hp.whole W) k = some W.heap[k] := by simp [Hp.whole, hk]
      rw [hm k _ this]; simp [hk]
    · rename_i hk
      rw [Array.getElem?_extract]
      split
      · congr 1; omega
      · rw [Array.getElem?_eq_none]; omega
  have h2 := h.drawn
  have h3 := h.os
  have h4 := h.tape
  have h5 := h.output
  cases w'; cases W
  simp only [grow, World.drewN] at *
  subst h3 h4 h5
  rw [← h1]
  congr 1
  omega
/-- the list, sorted -/
def sortF (L : List (Int × Int)) : List (Int × Int) := L.mergeSort fun x y => !(ltOf orderF) y x
theorem sortF_len (L : List (Int × Int)) : (sortF L).length = L.length := List.length_mergeSort _
theorem sort_spec {o : Dw.Os} {L : List (Int × Int)} (w : World) (hin : o.h.In w) (ho : OwnO fE 32 2 o L) (hl : L.length < 1000000) :
    CallsE Try.prog 71 #[o.v, .func (.func 72) #[] #[]] w (RetM w o.h fun v h' cs => v = .tuple #[] ∧ cs = [] ∧ OwnO fE 32 2 ⟨o.a, o.n, o.c, h'⟩ (sortF L)) := by
  have eg : ∀ args w, (callFunc 72 args).run Try.prog w = .ok (.enter 72 args) w := enters_of Try.func72 (by kernel_rfl) rfl
  refine ⟨fun w => enters_of Try.func71 (by kernel_rfl) rfl _ w, ?_⟩
  have hn := ho.len
  rcases ho.2.2 with ⟨h0, hc0⟩ | ⟨b, arr, h1, h2, h3, h4, h5, h6⟩
  · have hL : L = [] := List.eq_nil_of_length_eq_zero (by omega)
    have hcon := AnyF.slices_SortFunc_none Try.sortE o.a o.c (.func (.func 72) #[] #[]) w
    change Calls Try.prog 71 _ _ _ at hcon
    have e0 : o.v = .slice o.a 0 o.c := by rw [Os.v, h0]
    rw [e0]
    refine hcon.mono ?_
    rintro e w' ⟨rfl, rfl⟩
    refine ⟨_, o.h, [], rfl, Ok.start2 _ hin, rfl, rfl, ?_⟩
    subst hL
    have : sortF [] = [] := List.eq_nil_of_length_eq_zero (by rw [sortF_len]; rfl)
    rw [this]
    exact ho
  · have hk : ∀ x : Int × Int, (fE x).length = 2 := fun _ => rfl
    have hone : ∀ x : Int × Int, ∀ v ∈ fE x, v.oneCell' = true := fun x v hv => by simp [fE] at hv; rcases hv with rfl | rfl <;> rfl
    have hblk := hin b _ h2
    have hbl : b < w.heap.size := (Array.getElem?_eq_some_iff.1 hblk).1
    have hfl := flatLen hk
    have hcmp : CmpLays Try.prog 72 #[] fE 2 orderF b 0 L.toArray.size w := fun m os dk _ x y => by
      refine (order_spec x y _).2.mono ?_
      rintro e w' ⟨v, cs, rfl, hok, rfl, rfl⟩
      exact ⟨rfl, grown_of_ok hok⟩
    have flat : ∀ (M : List (Int × Int)) (t : Nat), t < M.length * 2 → (flatK fE 2 M.toArray)[t]! = (M.flatMap fE)[t]! := fun M t ht => by
      rw [get_flatK _ _ _ _ (by simpa using ht)]
      have hi : t / 2 < M.length := by omega
      have := flat_get fE hk M (t / 2) (t % 2) hi (by omega)
      rw [show t / 2 * 2 + t % 2 = t by omega] at this
      have e1 : M.toArray[t / 2]! = M[t / 2] := by simp [hi]
      rw [e1, List.getElem!_eq_getElem?_getD, List.getElem!_eq_getElem?_getD, this]
    have hH : HoldsK fE 2 w b 0 L.toArray := fun j hj => by
      have hj' : j < L.length * 2 := by simpa using hj
      have hja : j < arr.size := by rw [h5]; omega
      refine ⟨?_, ?_⟩
      · have e1 : w.cell? ⟨b, 0 + j, none⟩ = arr[j]? := by simp [World.cell?, hblk]
        have e2 : (L.flatMap fE)[j]? = arr[j]? := by
          rw [← h6, List.getElem?_take, if_pos (by omega)]; simp
        rw [e1, ← e2, flat L j hj', List.getElem!_eq_getElem?_getD, List.getElem?_eq_getElem (by rw [hfl]; exact hj')]
        rfl
      · simp [World.frozen?, hblk]
    have hcon := AnyQ.slices_SortFunc_total Try.sortE 2 Try.isAgg32 Try.sizeOf32 fE hk hone orderF swoOrder 72 #[] b 0 o.c L.toArray w eg hcmp hH hbl (by simp; omega) (fun x y hx hy => by
      rw [ltOf_order, decide_eq_false_iff_not] at hx hy
      exact Prod.ext (by omega) (by omega))
    change Calls Try.prog 71 _ _ _ at hcon
    have ha : o.v = .slice (some ⟨b, 0, none⟩) L.toArray.size o.c := by rw [Os.v, h1, hn]; simp
    rw [ha]
    refine hcon.mono ?_
    rintro e w' ⟨rfl, q, os, hw⟩
    have hw : w' = sortWorldK fE 2 w b 0 q (sortF L).toArray os := hw
    have hget : ∀ k, k < w.heap.size → w'.heap[k]? = if k = b then some (.cells (putCells id 0 (flatK fE 2 (sortF L).toArray) arr) 32 (0, 0)) else w.heap[k]? := fun k hk => by
      rw [hw]
      simp only [sortWorldK, grow, putRowK, putRow, mapBlock, show (Go.Sort.ahead w q).heap = w.heap from rfl]
      rw [Array.getElem?_append, if_pos (by simpa using hk), Array.getElem?_modify]
      by_cases e : b = k
      · subst e; rw [if_pos rfl, if_pos rfl, hblk]; rfl
      · rw [if_neg e, if_neg (fun x => e x.symm)]
    have hsz : w.heap.size ≤ w'.heap.size := by rw [hw]; simp [sortWorldK, grow, putRowK, putRow, mapBlock]
    refine ⟨.tuple #[], o.h.upd b (.cells (putCells id 0 (flatK fE 2 (sortF L).toArray) arr) 32 (0, 0)), [], rfl, ⟨?_, ?_, ?_, hsz, ?_, fun k c hc => ?_, fun j k c d hjk e1 e2 => ?_⟩, rfl, rfl, ?_, ?_, .inr ⟨b, _, h1, Hp.upd_self _ _ _, h3, h4, ?_, ?_⟩⟩
    · rw [hw]; rfl
    · rw [hw]; rfl
    · rw [hw]; rfl
    · rw [hw]; exact Nat.le_add_right _ _
    · match k, hc with
      | 0, hc =>
        simp only [sget, Option.some.injEq] at hc; subst hc
        intro k ob hk
        have hkw : w.heap[k]? = some ob := Hp.minus_le _ _ k ob hk
        have hlt := (Array.getElem?_eq_some_iff.1 hkw).1
        have hne : k ≠ b := fun e => by
          subst e
          rcases Hp.minus_dj (Hp.whole w) o.h k with e | e
          · rw [show (Hp.whole w).minus o.h k = some ob from hk] at e; cases e
          · rw [h2] at e; cases e
        rw [hget k hlt, if_neg hne]; exact hkw
      | 1, hc =>
        simp only [sget, Option.some.injEq] at hc; subst hc
        intro k ob hk
        have hk : (if k = b then some _ else o.h k) = some ob := hk
        by_cases e : k = b
        · subst e; rw [if_pos rfl] at hk; rw [hget k hbl, if_pos rfl]; exact hk
        · rw [if_neg e] at hk
          have hkw := hin k ob hk
          rw [hget k (Array.getElem?_eq_some_iff.1 hkw).1, if_neg e]; exact hkw
    · have main : ((Hp.whole w).minus o.h).dj (o.h.upd b (.cells (putCells id 0 (flatK fE 2 (sortF L).toArray) arr) 32 (0, 0))) := fun k => by
        rcases Hp.minus_dj (Hp.whole w) o.h k with e | e
        · exact .inl e
        · by_cases hkb : k = b
          · subst hkb; rw [h2] at e; cases e
          · right; simp only [Hp.upd, if_neg hkb]; exact e
      match j, k, e1, e2 with
      | 0, 0, _, _ => exact absurd rfl hjk
      | 1, 1, _, _ => exact absurd rfl hjk
      | 0, 1, e1, e2 =>
        simp only [sget, Option.some.injEq] at e1 e2; subst e1 e2; exact main
      | 1, 0, e1, e2 =>
        simp only [sget, Option.some.injEq] at e1 e2; subst e1 e2; exact main.symm
    · simp only [sortF_len]; exact hn
    · simp only [hfl, sortF_len, hn]
    · simp [putCells, h5]
    · have hss := sortF_len L
      apply List.ext_getElem?
      intro t
      rw [List.getElem?_take]
      split
      · rename_i ht
        have ht : t < o.n * 2 := ht
        have hta : t < arr.size := by rw [h5]; omega
        have e3 : (putCells id 0 (flatK fE 2 (sortF L).toArray) arr).toList[t]? = some ((flatK fE 2 (sortF L).toArray)[t]!) := by
          rw [Array.getElem?_toList]
          simp only [putCells, Array.getElem?_mapIdx, Array.getElem?_eq_getElem hta, Option.map_some]
          rw [if_pos ⟨Nat.zero_le _, by simp [hss]; omega⟩]
          rfl
        rw [e3, flat (sortF L) t (by omega), List.getElem!_eq_getElem?_getD, List.getElem?_eq_getElem (by rw [hfl]; omega)]
        rfl
      · rename_i ht
        rw [List.getElem?_eq_none]
        rw [hfl, hss]; have : ¬ t < o.n * 2 := ht; omega
end Go.Proofs.Ytdjhgcpmipglfaa
