/- A layer over the wp of loaded Go code: slices that the call itself owns: append, make, stores. No condition. -/
import Derived.Test.YtdjhgcpmipglfaaDwb
namespace Go.Dw
open Go Go.RowKit

/-- The slice value (a, n, c) owns the cells xs: nil, or the head of a block of heaplet h. -/
def Own (T sz : Nat) (h : Hp) (a : Option Addr) (n c : Nat) (xs : List Value) : Prop :=
  xs.length = n * sz ∧ ((n = 0 ∧ c = 0) ∨ ∃ b arr, a = some ⟨b, 0, none⟩ ∧ h b = some (.cells arr T (0, 0)) ∧ n ≤ c ∧ c ≤ maxLen ∧ arr.size = c * sz ∧ arr.toList.take (n * sz) = xs)
theorem Own.nil (T sz : Nat) (h : Hp) (a : Option Addr) : Own T sz h a 0 0 [] := ⟨by simp, .inl ⟨rfl, rfl⟩⟩
theorem Own.cap {T sz : Nat} {h : Hp} {a : Option Addr} {n c : Nat} {xs : List Value} (ho : Own T sz h a n c xs) : n ≤ c := by
  rcases ho.2 with ⟨rfl, rfl⟩ | ⟨_, _, _, _, h1, _⟩
  · exact Nat.le_refl _
  · exact h1
theorem Own.cell {T sz : Nat} {h : Hp} {a : Option Addr} {n c : Nat} {xs : List Value} (ho : Own T sz h a n c xs) {j : Nat} {v : Value} (hj : xs[j]? = some v) :
    ∃ b arr, a = some ⟨b, 0, none⟩ ∧ h b = some (.cells arr T (0, 0)) ∧ arr[j]? = some v ∧ h.cell? ⟨b, j, none⟩ = some v := by
  rcases ho.2 with ⟨rfl, _⟩ | ⟨b, arr, h1, h2, _, _, _, h5⟩
  · have := ho.1; simp at this; subst this; simp at hj
  · rw [← h5, List.getElem?_take] at hj
    split at hj
    · have hj' : arr[j]? = some v := by simpa using hj
      exact ⟨b, arr, h1, h2, hj', by rw [Hp.cell_block h2]; exact hj'⟩
    · cases hj

/-- element list, each element's cells by f (always sz of them) -/
def OwnL {α : Type} (f : α → List Value) (T sz : Nat) (h : Hp) (a : Option Addr) (n c : Nat) (L : List α) : Prop := n = L.length ∧ Own T sz h a n c (L.flatMap f)
theorem OwnL.nil {α : Type} (f : α → List Value) (T sz : Nat) (h : Hp) : OwnL f T sz h none 0 0 [] := ⟨rfl, by simpa using Own.nil T sz h none⟩
theorem flat_get {α : Type} (f : α → List Value) {sz : Nat} (hf : ∀ x, (f x).length = sz) : ∀ (L : List α) (i j : Nat) (hi : i < L.length), j < sz → (L.flatMap f)[i * sz + j]? = (f L[i])[j]?
  | x :: r, 0, j, _, hj => by simp [List.flatMap_cons, List.getElem?_append, hf, hj]
  | x :: r, i + 1, j, hi, hj => by
    have : (i + 1) * sz + j = sz + (i * sz + j) := by rw [Nat.succ_mul]; omega
    rw [List.flatMap_cons, this, List.getElem?_append_right (by rw [hf]; omega), hf]
    simpa using flat_get f hf r i j (by simpa using hi) hj
theorem OwnL.sl {α : Type} {f : α → List Value} {T sz : Nat} (hf : ∀ x, (f x).length = sz) (h0 : 0 < sz) {h : Hp} {a : Option Addr} {n c : Nat} {L : List α} (ho : OwnL f T sz h a n c L) : Sl (encF f) sz h a n c L := by
  obtain ⟨rfl, ho⟩ := ho
  refine ⟨rfl, ho.cap, fun i hi => ?_⟩
  have get : ∀ j v, (f L[i])[j]? = some v → ∃ b arr, a = some ⟨b, 0, none⟩ ∧ h b = some (.cells arr T (0, 0)) ∧ arr[i * sz + j]? = some v ∧ h.cell? ⟨b, i * sz + j, none⟩ = some v := fun j v hj => by
    have : j < sz := by rw [← hf L[i]]; exact (List.getElem?_eq_some_iff.1 hj).1
    exact ho.cell (by rw [flat_get f hf L i j hi this]; exact hj)
  have h00 : (f L[i])[0]? = some ((f L[i])[0]'(by rw [hf]; exact h0)) := List.getElem?_eq_getElem (by rw [hf]; exact h0)
  obtain ⟨b, arr, rfl, _⟩ := get 0 _ h00
  refine ⟨b, 0, f L[i], rfl, hf _, rfl, fun j v hj => ?_⟩
  obtain ⟨b', arr', e, _, _, h4⟩ := get j v hj
  cases e
  simpa using h4
theorem Sl.ofOwnL {α : Type} {f : α → List Value} {T sz : Nat} (hf : ∀ x, (f x).length = sz) (h0 : 0 < sz) {h : Hp} {a : Option Addr} {n c : Nat} {L : List α} (ho : OwnL f T sz h a n c L) : Sl (encF f) sz h a n c L := ho.sl hf h0

section
variable {X : Ctx} {s : List Ch}

/-- the row that an owned slice lies in, written anew -/
theorem Own.row {w0 w : World} (hok : Ok w0 s w) {i : Nat} {h : Hp} (hi : sget s i = some (.hp h)) {b T : Nat} {arr arr' : Array Value} (hb : h b = some (.cells arr T (0, 0))) :
    Ok w0 (sset s i (.hp (h.upd b (.cells arr' T (0, 0))))) (w.setRow b arr') := by
  have hblk := hok.mem i _ hi b _ hb
  refine hok.upd hi _ rfl rfl rfl (by simp [World.setRow]) (Nat.le_refl _) (fun k _ hk => ?_) ?_ (fun k hk => ?_)
  · refine setRow_other w b k _ (fun e => ?_)
    subst e
    rw [show (Ch.hp h).h = h from rfl, hb] at hk; cases hk
  · intro k o hk
    simp only [Ch.h, Hp.upd] at hk
    split at hk
    · rename_i e; subst e; cases hk; exact setRow_heap w k _ _ _ _ hblk
    · rename_i e
      rw [setRow_other w b k _ e]
      exact hok.mem i _ hi k o hk
  · left
    simp only [Ch.h, Hp.upd] at hk ⊢
    split at hk
    · rename_i e; subst e; rw [hb]; simp
    · exact hk

/-- the chunk moves to a new block -/
theorem Own.move {w0 w : World} (hok : Ok w0 s w) {i : Nat} {h : Hp} (hi : sget s i = some (.hp h)) (o : Obj) :
    Ok w0 (sset s i (.hp (Hp.one w.heap.size o))) (w.drew.alloc o) := by
  refine hok.upd hi _ rfl rfl rfl (by simp) (Nat.le_succ _) (fun k hk _ => _root_.Go.heap_alloc_old w.drew o hk) ?_ (fun k hk => ?_)
  · intro k o' hk
    simp only [Ch.h, Hp.one] at hk
    split at hk
    · rename_i e; subst e; cases hk; exact _root_.Go.heap_alloc_new w.drew _
    · cases hk
  · right
    simp only [Ch.h, Hp.one] at hk
    split at hk
    · rename_i e; omega
    · exact absurd rfl hk

/-- append to an owned slice: m new elements, whose cells are news. -/
theorem append_own (hX : X.Good) {T e ty : Nat} {te : TI} (hT : elsz X T = some (e, te)) {i : Nat} {h : Hp} (hi : sget s i = some (.hp h)) {a : Option Addr} {n c : Nat} {xs : List Value}
    (ho : Own e te.size h a n c xs) {m : Nat} {news : List Value} (hl : news.length = m * te.size) (h1 : ∀ v ∈ news, v.oneCell' = true) (hby : (n + m) * te.bytes ≤ 140737488355328) (hmx : n + m ≤ maxLen)
    {y : Value} (hy : ∀ w, Mem s w → (∃ c'', y = .slice none 0 c'' ∧ m = 0) ∨ ∃ ad c', y = .slice (some ad) m c' ∧ ∀ j u, news[j]? = some u → w.cell? (ad.add j) = some u) {q : TV → List Ch → Prop}
    (hq : ∀ a' c' h', Own e te.size h' a' (n + m) c' (xs ++ news) → (a' = none → n + m = 0) → q (.v (.slice a' (n + m) c')) (sset s i (.hp h'))) :
    NeedE X.P s (Builtin.append_ #[T, T] ty #[.slice a n c, y]) q := by
  obtain ⟨hu, hg⟩ := elsz_spec hX hT
  obtain ⟨⟨inf, hinf, hs1, hs2, z, hz, hzc, hzl⟩, _⟩ := hg
  have hsm : n + m ≤ 9223372036854775807 := by simp only [maxLen] at hmx; omega
  have hlen : (xs ++ news).length = (n + m) * te.size := by rw [List.length_append, ho.1, hl, Nat.add_mul]
  refine ⟨fun w0 w hok => ?_⟩
  have keep : ∀ h', Keep s (sset s i (.hp h')) := fun h' => Keep.set hi (fun b cs T e => by cases e)
  -- no element is appended, from nil
  rcases hy w hok.mem with ⟨c'', rfl, rfl⟩ | ⟨ad, c', rfl, hcells⟩
  · have hn : news = [] := List.eq_nil_of_length_eq_zero (by simpa using hl)
    subst hn
    simp only [Nat.add_zero, List.append_nil] at hq
    have hcap := ho.cap
    refine ⟨.v (.slice a n c), _, w, sset s i (.hp h), ?_, ?_, keep h, rfl, hq a c h ho ?_⟩
    · have hcap' : n ≤ c := hcap
      cases a with
      | none => simp [Builtin.append_, run_underlying hu, sizeOf, typeInfo, hinf, Builtin.lenOf, Builtin.firstCells, hcap']
      | some a => simp [Builtin.append_, run_underlying hu, sizeOf, typeInfo, hinf, Builtin.lenOf, Builtin.firstCells, hcap', storeCells]
    · have : sset s i (.hp h) = s := by
        rw [sset_eq]; rw [sget_eq] at hi
        exact List.ext_getElem? fun j => by
          rw [List.getElem?_set]
          split
          · rename_i e; subst e; split
            · exact hi.symm
            · rename_i hh; rw [List.getElem?_eq_none (by omega)] at hi; cases hi
          · rfl
      rw [this]; exact hok
    · intro ha
      rcases ho.2 with ⟨h0, _⟩ | ⟨b, arr, h0, _⟩
      · exact h0
      · rw [ha] at h0; cases h0
  · rcases ho.2 with ⟨rfl, rfl⟩ | ⟨b, arr, rfl, hb, hnc, hcm, hcs, htk⟩
    · have hx : xs = [] := List.eq_nil_of_length_eq_zero (by simpa using ho.1)
      subst hx
      have same : Ok w0 (sset s i (.hp h)) w := by
        have : sset s i (.hp h) = s := by
          rw [sset_eq]; rw [sget_eq] at hi
          exact List.ext_getElem? fun j => by
            rw [List.getElem?_set]
            split
            · rename_i e; subst e; split
              · exact hi.symm
              · rename_i hh; rw [List.getElem?_eq_none (by omega)] at hi; cases hi
            · rfl
        rw [this]; exact hok
      by_cases hm : m = 0
      · subst hm
        have hn : news = [] := List.eq_nil_of_length_eq_zero (by simpa using hl)
        subst hn
        refine ⟨.v (.slice a 0 0), _, w, sset s i (.hp h), ?_, same, keep h, rfl, hq a 0 h (Own.nil _ _ _ _) (fun _ => rfl)⟩
        cases a with
        | none => simp [Builtin.append_, run_underlying hu, sizeOf, typeInfo, hinf, Builtin.lenOf, Builtin.firstCells, loadCells, loadCellsFrom]
        | some a => simp [Builtin.append_, run_underlying hu, sizeOf, typeInfo, hinf, Builtin.lenOf, Builtin.firstCells, loadCells, loadCellsFrom, storeCells]
      · have hge := grownCap_ge w m 0 e
        have hcm := grownCap_le_maxLen w m 0 e (by omega)
        have hr : (Builtin.append_ #[T, T] ty #[.slice a 0 0, .slice (some ad) m c']).run X.P w =
            .ok (.slice (some ⟨w.heap.size, 0, none⟩) m (grownCap w m 0 e)) (w.drew.alloc (.cells (news.toArray ++ Builtin.zeroCells z.cells (grownCap w m 0 e - m)) e)) := by
          cases a with
          | none => exact run_append_nil (P := X.P) w T ty e inf z hu hinf hz ad m c' news (by rw [hs1]; exact hl) hcells (by omega) (by omega) (by rw [hs2]; simp only [Nat.zero_add] at hby; omega)
          | some b =>
            have := run_append_grow (P := X.P) w T ty e inf z hu hinf hz b 0 0 [] (by simp) (fun j v hj => by simp at hj) ad m c' news (by rw [hs1]; exact hl) hcells (by omega) (by omega) (growslice_fits (by omega) (by rw [hs2]; exact hby))
            simpa using this
        refine ⟨.v _, _, _, _, hr, Own.move hok hi _, keep _, rfl, ?_⟩
        have := hq (some ⟨w.heap.size, 0, none⟩) (grownCap w m 0 e) (Hp.one w.heap.size (.cells (news.toArray ++ Builtin.zeroCells z.cells (grownCap w m 0 e - m)) e))
          ⟨hlen, .inr ⟨_, _, rfl, Hp.one_self _ _, by simpa using hge, hcm, ?_, ?_⟩⟩ (fun h => by cases h)
        · simpa using this
        · simp only [Array.size_append, List.size_toArray, size_zeroCells, hzc, hzl, hl, ← Nat.add_mul]
          congr 1; omega
        · simp only [Array.toList_append, List.nil_append, Nat.zero_add, ← hl]
          exact List.take_left
    · by_cases hroom : n + m ≤ c
      · have hblk := hok.mem i _ hi b _ hb
        have hfit : n * inf.size + news.length ≤ arr.size := by rw [hs1, hl, hcs, ← Nat.add_mul]; exact Nat.mul_le_mul_right _ hroom
        have hr := run_append_room (P := X.P) w T ty e inf hu hinf b n c arr hblk ad m c' news (by rw [hs1]; exact hl) hcells h1 hroom hfit
        refine ⟨.v _, _, _, _, hr, Own.row hok hi hb, keep _, rfl, hq _ _ _ ⟨hlen, .inr ⟨b, _, rfl, Hp.upd_self _ _ _, hroom, hcm, ?_, ?_⟩⟩ (fun h => by cases h)⟩
        · simp only [List.size_toArray, List.length_append, List.length_take, List.length_drop, Array.length_toList]
          omega
        · simp only [hs1]
          rw [htk, ← hlen]
          exact List.take_left
      · have holds : ∀ j u, xs[j]? = some u → w.cell? ((⟨b, 0, none⟩ : Addr).add j) = some u := fun j u hu => by
          obtain ⟨b', arr', e1, _, _, h4⟩ := ho.cell hu
          cases e1
          rw [Addr.add_mk, Nat.zero_add]
          exact (hok.mem i _ hi).cell h4
        have hr := run_append_grow (P := X.P) w T ty e inf z hu hinf hz ⟨b, 0, none⟩ n c xs (by rw [hs1]; exact ho.1) holds ad m c' news (by rw [hs1]; exact hl) hcells (by omega) (by omega) (growslice_fits (by omega) (by rw [hs2]; exact hby))
        have hge := grownCap_ge w (n + m) c e
        have hcm' := grownCap_le_maxLen w (n + m) c e hmx
        refine ⟨.v _, _, _, _, hr, Own.move hok hi _, keep _, rfl, hq _ _ _ ⟨hlen, .inr ⟨_, _, rfl, Hp.one_self _ _, hge, hcm', ?_, ?_⟩⟩ (fun h => by cases h)⟩
        · simp only [Array.size_append, List.size_toArray, size_zeroCells, hzc, hzl, hl, ho.1, ← Nat.add_mul]
          congr 1; omega
        · simp only [Array.toList_append, List.append_assoc]
          rw [← List.append_assoc, ← hlen]
          exact List.take_left
end
end Go.Dw
