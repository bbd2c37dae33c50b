/- A layer over the wp of loaded Go code: owned slices as records; laws in their words; small encodings. No condition. -/
import Derived.Test.YtdjhgcpmipglfaaDwd
namespace Go.Dw
open Go Go.RowKit

/-- an owned slice: its value, and the heaplet that bears it -/
structure Os where
  a : Option Addr
  n : Nat
  c : Nat
  h : Hp
def Os.v (o : Os) : Value := .slice o.a o.n o.c
def Os.nil : Os := ⟨none, 0, 0, Hp.emp⟩
def OwnO {α : Type} (f : α → List Value) (T sz : Nat) (o : Os) (L : List α) : Prop := OwnL f T sz o.h o.a o.n o.c L
theorem OwnO.nil {α : Type} (f : α → List Value) (T sz : Nat) : OwnO f T sz Os.nil [] := OwnL.nil f T sz _
theorem OwnO.len {α : Type} {f : α → List Value} {T sz : Nat} {o : Os} {L : List α} (h : OwnO f T sz o L) : o.n = L.length := h.1
theorem OwnO.sl {α : Type} {f : α → List Value} {T sz : Nat} (hf : ∀ x, (f x).length = sz) (h0 : 0 < sz) {o : Os} {L : List α} (ho : OwnO f T sz o L) : Sl (encF f) sz o.h o.a o.n o.c L := OwnL.sl hf h0 ho
theorem OwnO.nilAddr {α : Type} {f : α → List Value} {T sz : Nat} {o : Os} {L : List α} (h : OwnO f T sz o L) (ha : o.a = none) : L = [] := by
  obtain ⟨h1, h2⟩ := h
  rcases h2.2 with ⟨h3, _⟩ | ⟨b, arr, h3, _⟩
  · exact List.eq_nil_of_length_eq_zero (by omega)
  · rw [ha] at h3; cases h3
/-- naturals, pairs of them -/
def fN (x : Nat) : List Value := [.int .i64 x]
def fEN (x : Nat × Nat) : List Value := [.int .i64 x.1, .int .i64 x.2]

section
variable {X : Ctx} {s : List Ch}
theorem appO {α : Type} {f : α → List Value} (hX : X.Good) {T e ty : Nat} {te : TI} (hT : elsz X T = some (e, te)) {i : Nat} {o : Os} (hi : sget s i = some (.hp o.h)) {L : List α}
    (ho : OwnO f e te.size o L) {j b e' : Nat} (x : α) (hj : sget s j = some (.box b (f x) e')) (hf : (f x).length = te.size) (h1 : allOne (f x) = true)
    (hby : Nat.ble te.bytes 140 = true) (hn : L.length < 1000000000000) {q : TV → List Ch → Prop}
    (hq : ∀ o', OwnO f e te.size o' (L ++ [x]) → q (.v o'.v) (sset s i (.hp o'.h))) :
    NeedA X.P s #[T, T] ty o.v (.bs j 1) q :=
  appL hX hT hi ho x hj hf h1 hby hn fun a' c' h' ho' => hq ⟨a', o.n + 1, c', h'⟩ ho'

theorem repL_flat {α : Type} (f : α → List Value) (z : α) : ∀ n, repL n (f z) = (List.replicate n z).flatMap f
  | 0 => rfl
  | n + 1 => by simp [repL, repL_flat f z n, List.replicate_succ]

/-- make([]T, n): n times the element z, whose cells are the zero value's -/
theorem mkO {α : Type} {f : α → List Value} (hX : X.Good) {T e : Nat} {te : TI} (hT : elsz X T = some (e, te)) (n : Nat) (z : α) (hz : te.zero = f z) {l c : Int} (hl : l = n) (hc : c = n) (hby : Nat.ble te.bytes 140 = true) (hn : n < 1000000000000) {q : TV → List Ch → Prop}
    (hq : ∀ o, o.n = n → OwnO f e te.size o (List.replicate n z) → q (.v o.v) (s ++ [.hp o.h])) :
    NeedE X.P s (Instr.makeSlice T (.int .i64 l) (.int .i64 c)) q := by
  have hb := Nat.le_of_ble_eq_true hby
  have hm := Nat.mul_le_mul hb (show n ≤ 1000000000000 by omega)
  refine mkE hX hT n hl hc (by omega) (by omega) fun b h' ho => hq ⟨_, n, n, h'⟩ rfl ⟨by simp, ?_⟩
  rw [hz, repL_flat] at ho
  exact ho

/-- index into an owned slice of one-cell elements -/
theorem oidx1 {α : Type} {f : α → List Value} (hX : X.Good) {T e : Nat} {te : TI} (hT : elsz X T = some (e, te)) (h1 : te.size = 1) {o : Os} {L : List α} (ho : OwnO f e 1 o L) {x : Int} (k : Nat) (hx : x = k) (hk : k < L.length) {q : TV → Prop}
    (hq : ∀ b, o.a = some ⟨b, 0, none⟩ → q (.v (.pointer (some ⟨b, 0 + k, none⟩)))) : NeedQ X.P s (Instr.indexAt T o.v (.int .i64 x)) q := by
  obtain ⟨hl, ho⟩ := ho
  refine oidx hX hT (by rw [h1]; exact ho) k hx (by omega) fun b hb => ?_
  rw [h1, Nat.mul_one]
  exact hq b hb

theorem flat1 {α : Type} {f : α → List Value} {g : α → Value} (hf : ∀ x, f x = [g x]) : ∀ L : List α, L.flatMap f = L.map g
  | [] => rfl
  | x :: r => by simp [hf, flat1 hf r]

/-- load of an element -/
theorem old {α : Type} {f : α → List Value} {g : α → Value} (hf : ∀ x, f x = [g x]) (hX : X.Good) {T e : Nat} {i : Nat} {o : Os} (hi : sget s i = some (.hp o.h)) {b k : Nat} (hb : o.a = some ⟨b, 0, none⟩) {L : List α} (ho : OwnO f e 1 o L) (hk : k < L.length)
    (hT : (tget X.tt T).map TI.agg = some false) {q : TV → Prop} (hq : q (.v (g L[k]))) : NeedQ X.P s (Instr.loadAt T (.pointer (some ⟨b, 0 + k, none⟩))) q := by
  obtain ⟨hl, ho⟩ := ho
  rw [hb, flat1 hf] at ho
  exact old1 hX hi ho (by simp [hk]) hT hq

/-- store of an element -/
theorem osto {α : Type} {f : α → List Value} {g : α → Value} (hf : ∀ x, f x = [g x]) (hX : X.Good) {T e : Nat} {i : Nat} {o : Os} (hi : sget s i = some (.hp o.h)) {b k : Nat} (hb : o.a = some ⟨b, 0, none⟩) {L : List α} (ho : OwnO f e 1 o L) (hk : k < L.length)
    {ti : TI} (hT : tget X.tt T = some ti) (h1 : ti.size = 1) (x : α) {v : Value} (hv : v = g x) (hc : (g x).cells = #[g x]) (hone : (g x).oneCell' = true) {q : List Ch → Prop}
    (hq : ∀ o', o'.a = o.a → o'.n = o.n → o'.c = o.c → OwnO f e 1 o' (L.set k x) → q (sset s i (.hp o'.h))) : NeedU X.P s (Instr.storeAt T (.pointer (some ⟨b, 0 + k, none⟩)) v) q := by
  subst hv
  obtain ⟨hl, ho⟩ := ho
  rw [hb, flat1 hf] at ho
  refine ost hX hi ho hT (by rw [hc, h1]; rfl) (by rw [hc]; simp [allOne, hone]) (by rw [h1, hl]; omega) (by rw [h1]; rfl) fun h' ho' => hq ⟨o.a, o.n, o.c, h'⟩ rfl rfl rfl ⟨by simpa using hl, ?_⟩
  rw [flat1 hf, hb]
  have : (L.map g).take k ++ (g x).cells.toList ++ (L.map g).drop (k + ti.size) = (L.set k x).map g := by
    rw [hc, h1]
    apply List.ext_getElem?
    intro j
    simp only [List.getElem?_append, List.getElem?_take, List.length_take, List.length_map, List.getElem?_drop, List.getElem?_map, List.getElem?_set, List.length_append, List.length_cons, List.length_nil]
    have e1 : min k L.length = k := by omega
    rw [e1]
    by_cases c1 : j < k
    · simp [c1, show j < k + 1 by omega, show ¬ k = j by omega]
    · by_cases c2 : j = k
      · subst c2; simp [hk]
      · simp [show ¬ j < k + 1 by omega, show ¬ k = j by omega, show k + 1 + (j - (k + 1)) = j by omega]
  rw [← this]
  exact ho'
end
end Go.Dw
