/- A layer over the wp of loaded Go code: laws for append, make, index, load and store of owned slices, as WP asks them. No condition. -/
import Derived.Test.YtdjhgcpmipglfaaDwc
namespace Go.Dw
open Go Go.RowKit

section
variable {X : Ctx} {s : List Ch}

/-- append(v, x1, .., xm): the new elements lie in a box of their own. -/
theorem app_bs (hX : X.Good) {T e ty : Nat} {te : TI} (hT : elsz X T = some (e, te)) {i : Nat} {h : Hp} (hi : sget s i = some (.hp h)) {a : Option Addr} {n c : Nat} {xs : List Value}
    (ho : Own e te.size h a n c xs) {j m b e' : Nat} {news : List Value} (hj : sget s j = some (.box b news e')) (hl : news.length = m * te.size) (h1 : allOne news = true)
    (hby : (n + m) * te.bytes ≤ 140737488355328) (hmx : n + m ≤ maxLen) {q : TV → List Ch → Prop}
    (hq : ∀ a' c' h', Own e te.size h' a' (n + m) c' (xs ++ news) → (a' = none → n + m = 0) → q (.v (.slice a' (n + m) c')) (sset s i (.hp h'))) :
    NeedA X.P s #[T, T] ty (.slice a n c) (.bs j m) q := by
  refine ⟨.slice (some ⟨b, 0, none⟩) m m, by simp [TV.val, hj], append_own hX hT hi ho hl (allOne_sound h1) hby hmx (fun w hm => .inr ⟨_, _, rfl, fun k u hk => ?_⟩) hq⟩
  rw [Addr.add_mk, Nat.zero_add]
  exact box_cell hm hj hk

/-- the same, for typed lists -/
theorem appL {α : Type} {f : α → List Value} (hX : X.Good) {T e ty : Nat} {te : TI} (hT : elsz X T = some (e, te)) {i : Nat} {h : Hp} (hi : sget s i = some (.hp h)) {a : Option Addr} {n c : Nat} {L : List α}
    (ho : OwnL f e te.size h a n c L) {j b e' : Nat} (x : α) (hj : sget s j = some (.box b (f x) e')) (hf : (f x).length = te.size) (h1 : allOne (f x) = true)
    (hby : Nat.ble te.bytes 140 = true) (hn : L.length < 1000000000000) {q : TV → List Ch → Prop}
    (hq : ∀ a' c' h', OwnL f e te.size h' a' (n + 1) c' (L ++ [x]) → q (.v (.slice a' (n + 1) c')) (sset s i (.hp h'))) :
    NeedA X.P s #[T, T] ty (.slice a n c) (.bs j 1) q := by
  obtain ⟨rfl, ho⟩ := ho
  have hb := Nat.le_of_ble_eq_true hby
  have hm := Nat.mul_le_mul (show L.length + 1 ≤ 1000000000000 by omega) hb
  exact app_bs hX hT hi ho hj (by simpa using hf) h1 (by omega) (by simp only [maxLen]; omega) fun a' c' h' ho' _ => hq a' c' h' ⟨by simp, by simpa using ho'⟩

/-- make([]T, n) -/
theorem mkE (hX : X.Good) {T e : Nat} {te : TI} (hT : elsz X T = some (e, te)) (n : Nat) {l c : Int} (hl : l = n) (hc : c = n) (hby : te.bytes * n ≤ 281474976710656) (hn : n ≤ 9223372036854775807) {q : TV → List Ch → Prop}
    (hq : ∀ b h', Own e te.size h' (some ⟨b, 0, none⟩) n n (repL n te.zero) → q (.v (.slice (some ⟨b, 0, none⟩) n n)) (s ++ [.hp h'])) :
    NeedE X.P s (Instr.makeSlice T (.int .i64 l) (.int .i64 c)) q := by
  subst hl; subst hc
  obtain ⟨hu, hg⟩ := elsz_spec hX hT
  obtain ⟨⟨inf, hinf, hs1, hs2, z, hz, hzc, hzl⟩, _⟩ := hg
  refine ⟨fun w0 w hok => ?_⟩
  have hr := run_make (P := X.P) w T e inf z hu hinf hz .i64 .i64 n n (by omega) (Int.le_refl _) (by rw [hs2]; have : ((te.bytes * n : Nat) : Int) ≤ 281474976710656 := by omega
                                                                                                     simpa using this) (by omega)
  simp only [Int.toNat_natCast, hs1, hzc] at hr
  have hm : madeCells te.zero.toArray (n * te.size) = (repL n te.zero).toArray := by
    have := repL_eq te.zero n
    rw [hzl] at this
    simpa [madeCells, hzl] using this
  rw [hm] at hr
  refine ⟨.v _, _, _, _, hr, hok.alloc (.hp (Hp.one w.heap.size _)) _ rfl, Keep.app s _, rfl, hq w.heap.size _ ⟨?_, .inr ⟨_, _, rfl, Hp.one_self _ _, Nat.le_refl _, by simp only [maxLen]; omega, ?_, ?_⟩⟩⟩
  all_goals
    have hlen : (repL n te.zero).length = n * te.size := by
      clear hr hm hq hby hn
      induction n with
      | zero => simp [repL]
      | succ n ih => simp [repL, hzl, ih, Nat.succ_mul, Nat.add_comm]
  · exact hlen
  · simpa using hlen
  · rw [← hlen]; simp

/-- index into an owned slice: the pointer -/
theorem oidx (hX : X.Good) {T e : Nat} {te : TI} (hT : elsz X T = some (e, te)) {h : Hp} {a : Option Addr} {n c : Nat} {xs : List Value} (ho : Own e te.size h a n c xs) {x : Int} (k : Nat) (hx : x = k) (hk : k < n) {q : TV → Prop}
    (hq : ∀ b, a = some ⟨b, 0, none⟩ → q (.v (.pointer (some ⟨b, 0 + k * te.size, none⟩)))) : NeedQ X.P s (Instr.indexAt T (.slice a n c) (.int .i64 x)) q := by
  subst hx
  rcases ho.2 with ⟨rfl, _⟩ | ⟨b, arr, rfl, _⟩
  · omega
  · exact ⟨_, fun w _ => run_indexAt hX hT hk w, hq b rfl⟩

/-- load of a one-cell element of an owned slice -/
theorem old1 (hX : X.Good) {T e sz : Nat} {i : Nat} {h : Hp} (hi : sget s i = some (.hp h)) {b c n j : Nat} {xs : List Value} (ho : Own e sz h (some ⟨b, 0, none⟩) n c xs) {v : Value} (hj : xs[j]? = some v) (hT : (tget X.tt T).map TI.agg = some false) {q : TV → Prop} (hq : q (.v v)) :
    NeedQ X.P s (Instr.loadAt T (.pointer (some ⟨b, 0 + j, none⟩))) q := by
  obtain ⟨b', arr, e1, _, _, h4⟩ := ho.cell hj
  cases e1
  rw [Nat.zero_add]
  exact ld1 hX hi h4 hT hq

/-- store into an owned slice: the cells from j on become vs -/
theorem ost (hX : X.Good) {T e sz : Nat} {i : Nat} {h : Hp} (hi : sget s i = some (.hp h)) {b c n j : Nat} {xs : List Value} (ho : Own e sz h (some ⟨b, 0, none⟩) n c xs) {v : Value} {ti : TI} (hT : tget X.tt T = some ti)
    (hv : v.cells.size = ti.size) (h1 : allOne v.cells.toList = true) (hj : j + ti.size ≤ n * sz) (hps : Nat.blt 0 ti.size = true) {q : List Ch → Prop}
    (hq : ∀ h', Own e sz h' (some ⟨b, 0, none⟩) n c (xs.take j ++ v.cells.toList ++ xs.drop (j + ti.size)) → q (sset s i (.hp h'))) :
    NeedU X.P s (Instr.storeAt T (.pointer (some ⟨b, 0 + j, none⟩)) v) q := by
  refine ⟨fun w0 w hok => ?_⟩
  rcases ho.2 with ⟨h0, _⟩ | ⟨b', arr, e1, hb, hnc, hcm, hcs, htk⟩
  · subst h0; simp [Nat.blt_eq] at hps hj; omega
  · cases e1
    have hblk := hok.mem i _ hi b _ hb
    have hle : n * sz ≤ c * sz := Nat.mul_le_mul_right _ hnc
    have hst := run_storeCells_at X.P b (0 + j) e v.cells.toList 0 arr w hblk (by simp [hv, hcs]; omega) (allOne_sound h1)
    simp only [Nat.add_zero, Nat.zero_add, Array.length_toList, hv] at hst
    refine ⟨_, _, ?_, Own.row (arr' := (arr.toList.take j ++ v.cells.toList ++ arr.toList.drop (j + ti.size)).toArray) hok hi hb, Keep.set hi (fun b cs T e => by cases e), hq _ ⟨?_, .inr ⟨b, _, rfl, Hp.upd_self _ _ _, hnc, hcm, ?_, ?_⟩⟩⟩
    · simp [Instr.storeAt, Instr.sureAddr, storeVar, (Good.und hX hT).size, hv, hst]
    · have := ho.1; simp [hv]; omega
    · simp [hv]; omega
    · have hxl := ho.1
      subst htk
      apply List.ext_getElem?
      intro k
      simp only [List.getElem?_take, List.getElem?_append, List.length_append, List.length_take, Array.length_toList, List.getElem?_drop, hv, hcs]
      have e1 : min j (c * sz) = j := by omega
      have e2 : min j (min (n * sz) (c * sz)) = j := by omega
      rw [e1, e2]
      by_cases c1 : k < n * sz
      · rw [if_pos c1]
        by_cases c2 : k < j + ti.size
        · rw [if_pos c2, if_pos c2]
          by_cases c3 : k < j
          · simp [c3, c1]
          · simp [c3]
        · rw [if_neg c2, if_neg c2]
          have : j + ti.size + (k - (j + ti.size)) = k := by omega
          rw [this, if_pos c1]
      · rw [if_neg c1, if_neg (by omega)]
        rw [if_neg (by omega)]
end
end Go.Dw
