/- A layer over the wp of loaded Go code: slices of slices: s[l:m], owned queues (an owned slice whose head lies within its block), blocks and heaplets as chunks. No condition. -/
import Derived.Test.YtdjhgcpmipglfaaDwf
namespace Go.Dw
open Go Go.RowKit

section
variable {X : Ctx} {s : List Ch}

/-- s[l:m] of a slice -/
theorem slq (hX : X.Good) {T e : Nat} {te : TI} (hT : elsz X T = some (e, te)) {a : Option Addr} {n c : Nat} (l m : Nat) {lo hi : Option Value}
    (hlo : (lo = none ∧ l = 0) ∨ ∃ k x, lo = some (.int k x) ∧ x = (l : Int)) (hhi : (hi = none ∧ m = n) ∨ ∃ k x, hi = some (.int k x) ∧ x = (m : Int)) (hlm : l ≤ m) (hmc : m ≤ c) {q : TV → Prop}
    (hq : q (.v (.slice (if c = l then a else a.map (·.add (l * te.size))) (m - l) (c - l)))) : NeedQ X.P s (Instr.sliceAt T (.slice a n c) lo hi none) q := by
  obtain ⟨hu, hg⟩ := elsz_spec hX hT
  obtain ⟨⟨inf, hinf, hs1, hs2, z, hz, hzc, hzl⟩, _⟩ := hg
  refine ⟨_, fun w _ => ?_, hq⟩
  have e1 : ((m : Int).toNat : Int) = m := rfl
  rcases hlo with ⟨rfl, rfl⟩ | ⟨k, x, rfl, rfl⟩ <;> rcases hhi with ⟨rfl, rfl⟩ | ⟨k', x', rfl, rfl⟩ <;>
    simp [Instr.sliceAt, Instr.slice, run_underlying hu, Instr.sliceBounds, run_sliceBound, sizeOf, typeInfo, hinf, hs1, hlm, hmc]

/-- the same, read as a list -/
theorem slS (hX : X.Good) {α : Type} {R : Enc α} {T e : Nat} {te : TI} (hT : elsz X T = some (e, te)) {h : Hp} {a : Option Addr} {n c : Nat} {L : List α} (hs : Sl R te.size h a n c L) (l m : Nat) {lo hi : Option Value}
    (hlo : (lo = none ∧ l = 0) ∨ ∃ k x, lo = some (.int k x) ∧ x = (l : Int)) (hhi : (hi = none ∧ m = n) ∨ ∃ k x, hi = some (.int k x) ∧ x = (m : Int)) (hlm : l ≤ m) (hmn : m ≤ n) {q : TV → Prop}
    (hq : ∀ a', Sl R te.size h a' (m - l) (c - l) ((L.take m).drop l) → q (.v (.slice a' (m - l) (c - l)))) : NeedQ X.P s (Instr.sliceAt T (.slice a n c) lo hi none) q := by
  have hlen := hs.len
  have hcap := hs.cap
  refine slq hX hT l m hlo hhi hlm (by omega) (hq _ ⟨by simp; omega, by omega, fun i hi => ?_⟩)
  simp only [List.length_drop, List.length_take] at hi
  obtain ⟨b, off, cs, rfl, h2, h3, h4⟩ := hs.cells (l + i) (by omega)
  refine ⟨b, off + l * te.size, cs, by rw [if_neg (by omega)]; simp [Addr.add_mk], h2, ?_, fun j v hj => ?_⟩
  · simpa using h3
  · have := h4 j v hj
    rw [Nat.add_mul] at this
    rwa [show off + l * te.size + i * te.size + j = off + (l * te.size + i * te.size) + j by omega]
end

/-! ### Owned queues -/
def OwnQ {α : Type} (f : α → List Value) (T sz : Nat) (o : Os) (L : List α) : Prop :=
  o.n = L.length ∧ (L.flatMap f).length = o.n * sz ∧ ((o.n = 0 ∧ o.c = 0) ∨ ∃ b off arr, o.a = some ⟨b, off, none⟩ ∧ o.h b = some (.cells arr T (0, 0)) ∧ o.n ≤ o.c ∧ o.c ≤ maxLen ∧ arr.size = off + o.c * sz ∧ (arr.toList.drop off).take (o.n * sz) = L.flatMap f)
theorem OwnO.q {α : Type} {f : α → List Value} {T sz : Nat} {o : Os} {L : List α} (h : OwnO f T sz o L) : OwnQ f T sz o L := by
  refine ⟨h.1, h.2.1, ?_⟩
  rcases h.2.2 with h0 | ⟨b, arr, h1, h2, h3, h4, h5, h6⟩
  · exact .inl h0
  · exact .inr ⟨b, 0, arr, h1, h2, h3, h4, by omega, by simpa using h6⟩
theorem OwnQ.len {α : Type} {f : α → List Value} {T sz : Nat} {o : Os} {L : List α} (h : OwnQ f T sz o L) : o.n = L.length := h.1
theorem OwnQ.cell {α : Type} {f : α → List Value} {T sz : Nat} {o : Os} {L : List α} (h : OwnQ f T sz o L) {j : Nat} {v : Value} (hj : (L.flatMap f)[j]? = some v) :
    ∃ b off, o.a = some ⟨b, off, none⟩ ∧ o.h.cell? ⟨b, off + j, none⟩ = some v := by
  rcases h.2.2 with ⟨h0, _⟩ | ⟨b, off, arr, h1, h2, h3, h4, h5, h6⟩
  · have := h.2.1; rw [h0] at this; simp only [Nat.zero_mul] at this
    have := List.eq_nil_of_length_eq_zero this
    rw [this] at hj; simp at hj
  · refine ⟨b, off, h1, ?_⟩
    rw [← h6, List.getElem?_take] at hj
    split at hj
    · rw [Hp.cell_block h2]; simpa using hj
    · cases hj
theorem OwnQ.sl {α : Type} {f : α → List Value} {T sz : Nat} (hf : ∀ x, (f x).length = sz) (h0 : 0 < sz) {o : Os} {L : List α} (ho : OwnQ f T sz o L) : Sl (encF f) sz o.h o.a o.n o.c L := by
  have hcap : o.n ≤ o.c := by
    rcases ho.2.2 with ⟨h0, h1⟩ | ⟨b, off, arr, h1, h2, h3, h4⟩ <;> omega
  refine ⟨ho.1, hcap, fun i hi => ?_⟩
  have get : ∀ j v, (f L[i])[j]? = some v → ∃ b off, o.a = some ⟨b, off, none⟩ ∧ o.h.cell? ⟨b, off + (i * sz + j), none⟩ = some v := fun j v hj => by
    have : j < sz := by rw [← hf L[i]]; exact (List.getElem?_eq_some_iff.1 hj).1
    exact ho.cell (by rw [flat_get f hf L i j hi this]; exact hj)
  have h00 : (f L[i])[0]? = some ((f L[i])[0]'(by rw [hf]; exact h0)) := List.getElem?_eq_getElem (by rw [hf]; exact h0)
  obtain ⟨b, off, e1, _⟩ := get 0 _ h00
  refine ⟨b, off, f L[i], e1, hf _, rfl, fun j v hj => ?_⟩
  obtain ⟨b', off', e, h4⟩ := get j v hj
  rw [e1] at e; cases e
  simpa [Nat.add_assoc] using h4

section
variable {X : Ctx} {s : List Ch}
/-- the tail of a queue -/
theorem qtail {α : Type} {f : α → List Value} (hX : X.Good) {T e : Nat} {te : TI} (hT : elsz X T = some (e, te)) (hf : ∀ x, (f x).length = te.size) {o : Os} {x : α} {L : List α} (ho : OwnQ f e te.size o (x :: L)) {k : IntKind} {q : TV → Prop}
    (hq : ∀ o', OwnQ f e te.size o' L → o'.h = o.h → q (.v o'.v)) : NeedQ X.P s (Instr.sliceAt T o.v (some (.int k 1)) none none) q := by
  have hn := ho.1
  simp only [List.length_cons] at hn
  have hfl := ho.2.1
  have h11 : (1 : Int) = ((1 : Nat) : Int) := rfl
  rcases ho.2.2 with ⟨h0, _⟩ | ⟨b, off, arr, h1, h2, h3, h4, h5, h6⟩
  · omega
  · refine slq hX hT 1 o.n (.inr ⟨_, _, rfl, h11⟩) (.inl ⟨rfl, rfl⟩) (by omega) h3 (hq ⟨if o.c = 1 then o.a else o.a.map (·.add (1 * te.size)), o.n - 1, o.c - 1, o.h⟩ ⟨by simp; omega, ?_, ?_⟩ rfl)
    · simp only [List.flatMap_cons, List.length_append, hf] at hfl
      rw [hn, Nat.add_mul] at hfl
      simp only [hn, Nat.add_sub_cancel]
      omega
    · by_cases hc : o.c = 1
      · exact .inl ⟨by simp only; omega, by simp only; omega⟩
      · refine .inr ⟨b, off + te.size, arr, by simp only [Nat.one_mul]; rw [if_neg hc, h1]; simp [Addr.add_mk], h2, by simp only; omega, by simp only; omega, ?_, ?_⟩
        · simp only
          obtain ⟨c', hc'⟩ : ∃ c', o.c = c' + 1 := ⟨o.c - 1, by omega⟩
          rw [h5, hc', Nat.add_mul]
          simp only [Nat.add_sub_cancel]
          omega
        · simp only [hn, Nat.add_sub_cancel]
          rw [hn, Nat.add_mul, Nat.one_mul] at h6
          have h7 : (List.flatMap f (x :: L)).drop te.size = L.flatMap f := by rw [List.flatMap_cons, ← hf x]; exact List.drop_left
          rw [← h7, ← h6, List.drop_take, List.drop_drop, Nat.add_sub_cancel]

/-- append of one element to a queue -/
theorem appQ {α : Type} {f : α → List Value} (hX : X.Good) {T e ty : Nat} {te : TI} (hT : elsz X T = some (e, te)) {i : Nat} {o : Os} (hi : sget s i = some (.hp o.h)) {L : List α}
    (ho : OwnQ f e te.size o L) {j b e' : Nat} (x : α) (hj : sget s j = some (.box b (f x) e')) (hf : (f x).length = te.size) (h1 : allOne (f x) = true)
    (hby : Nat.ble te.bytes 140 = true) (hn : L.length < 1000000000000) {q : TV → List Ch → Prop}
    (hq : ∀ o', OwnQ f e te.size o' (L ++ [x]) → q (.v o'.v) (sset s i (.hp o'.h))) :
    NeedA X.P s #[T, T] ty o.v (.bs j 1) q := by
  have hb := Nat.le_of_ble_eq_true hby
  have hmb := Nat.mul_le_mul (show L.length + 1 ≤ 1000000000000 by omega) hb
  have hlen := ho.1
  have hfl := ho.2.1
  rcases ho.2.2 with h0 | ⟨b1, off, arr, h1', h2, h3, h4, h5, h6⟩
  · refine appO (o := o) (L := L) hX hT hi ⟨ho.1, ho.2.1, .inl h0⟩ x hj hf h1 hby hn fun o' ho' => hq o' ho'.q
  · refine ⟨.slice (some ⟨b, 0, none⟩) 1 1, by simp [TV.val, hj], ?_⟩
    obtain ⟨hu, hg⟩ := elsz_spec hX hT
    obtain ⟨⟨inf, hinf, hs1, hs2, z, hz, hzc, hzl⟩, _⟩ := hg
    refine ⟨fun w0 w hok => ?_⟩
    have hcells : ∀ j' u, (f x)[j']? = some u → w.cell? ((⟨b, 0, none⟩ : Addr).add j') = some u := fun k u hk => by
      rw [Addr.add_mk, Nat.zero_add]
      exact box_cell hok.mem hj hk
    have keep : ∀ h', Keep s (sset s i (.hp h')) := fun h' => Keep.set hi (fun b cs T e => by cases e)
    have hlen' : (List.flatMap f (L ++ [x])).length = (o.n + 1) * te.size := by simp only [List.flatMap_append, List.length_append, hfl, List.flatMap_cons, List.flatMap_nil, List.append_nil, hf, Nat.add_mul, Nat.one_mul]
    have hov : o.v = .slice (some ⟨b1, off, none⟩) o.n o.c := by rw [Os.v, h1']
    by_cases hroom : o.n + 1 ≤ o.c
    · have hblk := hok.mem i _ hi b1 _ h2
      have hfit : off + o.n * inf.size + (f x).length ≤ arr.size := by
        have := Nat.mul_le_mul_right te.size hroom
        rw [Nat.add_mul, Nat.one_mul] at this
        rw [hs1, hf, h5]; omega
      have hfc := run_firstCells_some (P := X.P) w inf.size 1 ⟨b, 0, none⟩ 1 1 (f x) (by rw [hs1, hf]; omega) hcells
      have hst := run_storeCells_at X.P b1 (off + o.n * inf.size) e (f x) 0 arr w hblk (by simpa using hfit) (allOne_sound h1)
      simp only [Nat.add_zero] at hst
      have hr : (Builtin.append_ #[T, T] ty #[o.v, .slice (some ⟨b, 0, none⟩) 1 1]).run X.P w = .ok (.slice (some ⟨b1, off, none⟩) (o.n + 1) o.c) (w.setRow b1 (arr.toList.take (off + o.n * inf.size) ++ (f x) ++ arr.toList.drop (off + o.n * inf.size + (f x).length)).toArray) := by
        rw [hov]
        simp [Builtin.append_, run_underlying hu, sizeOf, typeInfo, hinf, Builtin.lenOf, hroom, hfc, Addr.add_lit, hst]
      refine ⟨.v _, _, _, _, hr, Own.row hok hi h2, keep _, rfl, hq ⟨some ⟨b1, off, none⟩, o.n + 1, o.c, _⟩ ⟨by simp [hlen], hlen', .inr ⟨b1, off, _, rfl, Hp.upd_self _ _ _, hroom, h4, ?_, ?_⟩⟩⟩
      · simp only [List.size_toArray, List.length_append, List.length_take, List.length_drop, Array.length_toList]
        omega
      · simp only
        rw [hs1, List.drop_append_of_le_length (by simp; omega), List.drop_append_of_le_length (by simp; omega), List.drop_take, Nat.add_sub_cancel_left, h6, List.take_append_of_le_length (by simp only [List.length_append, hf, hfl, Nat.add_mul, Nat.one_mul]; omega), List.take_of_length_le (by simp only [List.length_append, hf, hfl, Nat.add_mul, Nat.one_mul]; omega)]
        simp
    · have holds : ∀ j u, (L.flatMap f)[j]? = some u → w.cell? ((⟨b1, off, none⟩ : Addr).add j) = some u := fun j u hu => by
        obtain ⟨b', off', e1, h4⟩ := ho.cell hu
        rw [h1'] at e1; cases e1
        rw [Addr.add_mk]
        exact (hok.mem i _ hi).cell h4
      have hr := run_append_grow (P := X.P) w T ty e inf z hu hinf hz ⟨b1, off, none⟩ o.n o.c (L.flatMap f) (by rw [hs1]; exact hfl) holds ⟨b, 0, none⟩ 1 1 (f x) (by rw [hs1, hf]; omega) hcells (by omega) (by omega) (growslice_fits (by omega) (by rw [hs2, hlen]; omega))
      have hge := grownCap_ge w (o.n + 1) o.c e
      have hcm' := grownCap_le_maxLen w (o.n + 1) o.c e (by unfold maxLen; omega)
      rw [← hov] at hr
      refine ⟨.v _, _, _, _, hr, Own.move hok hi _, keep _, rfl, hq ⟨some ⟨w.heap.size, 0, none⟩, o.n + 1, grownCap w (o.n + 1) o.c e, _⟩ ⟨by simp [hlen], hlen', .inr ⟨_, 0, _, rfl, Hp.one_self _ _, hge, hcm', ?_, ?_⟩⟩⟩
      · simp only [Array.size_append, List.size_toArray, size_zeroCells, hzc, hzl, hfl, hf]
        obtain ⟨d, hd⟩ : ∃ d, grownCap w (o.n + 1) o.c e = (o.n + 1) + d := ⟨grownCap w (o.n + 1) o.c e - (o.n + 1), by omega⟩
        rw [hd, show o.n + 1 + d - (o.n + 1) = d by omega]
        simp only [Nat.add_mul, Nat.one_mul]
        omega
      · simp only [Array.toList_append, List.drop_zero]
        rw [show List.flatMap f (L ++ [x]) = L.flatMap f ++ f x by simp, ← hlen', show (List.flatMap f (L ++ [x])).length = (L.flatMap f ++ f x).length by simp]
        exact List.take_left
end
end Go.Dw
