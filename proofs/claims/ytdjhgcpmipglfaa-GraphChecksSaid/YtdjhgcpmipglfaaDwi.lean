/- A layer over the wp of loaded Go code: parts of owned slices: s[k:], s[:k], stores of many-cell elements, clear. No condition. -/
import Derived.Test.YtdjhgcpmipglfaaDwh
namespace Go.Dw
open Go Go.RowKit

theorem Sl.drop {α : Type} {R : Enc α} {sz : Nat} {h : Hp} {b off n c : Nat} {L : List α} (hs : Sl R sz h (some ⟨b, off, none⟩) n c L) (l : Nat) (hl : l ≤ n) : Sl R sz h (some ⟨b, off + l * sz, none⟩) (n - l) (c - l) (L.drop l) := by
  have hlen := hs.len
  have hcap := hs.cap
  refine ⟨by simp; omega, by omega, fun i hi => ?_⟩
  simp only [List.length_drop] at hi
  obtain ⟨b', off', cs, e, h2, h3, h4⟩ := hs.cells (l + i) (by omega)
  cases e
  refine ⟨b, off + l * sz, cs, rfl, h2, by simpa using h3, fun j v hj => ?_⟩
  have := h4 j v hj
  rw [Nat.add_mul] at this
  rwa [show off + l * sz + i * sz + j = off + (l * sz + i * sz) + j by omega]
theorem flatN {α : Type} {f : α → List Value} {sz : Nat} (hf : ∀ x, (f x).length = sz) : ∀ L : List α, (L.flatMap f).length = L.length * sz
  | [] => by simp
  | x :: r => by rw [List.flatMap_cons, List.length_append, hf, flatN hf r, List.length_cons, Nat.succ_mul]; omega
theorem flat_take {α : Type} {f : α → List Value} {sz : Nat} (hf : ∀ x, (f x).length = sz) : ∀ (L : List α) (k : Nat), (L.flatMap f).take (k * sz) = (L.take k).flatMap f
  | L, 0 => by simp
  | [], k + 1 => by simp
  | x :: r, k + 1 => by
    rw [List.flatMap_cons, List.take_succ_cons, List.flatMap_cons, Nat.succ_mul, Nat.add_comm (k * sz), ← hf x, List.take_length_add_append, hf x, flat_take hf r k]
theorem flat_drop {α : Type} {f : α → List Value} {sz : Nat} (hf : ∀ x, (f x).length = sz) : ∀ (L : List α) (k : Nat), (L.flatMap f).drop (k * sz) = (L.drop k).flatMap f
  | L, 0 => by simp
  | [], k + 1 => by simp
  | x :: r, k + 1 => by
    rw [List.flatMap_cons, List.drop_succ_cons, Nat.succ_mul, Nat.add_comm (k * sz), ← hf x, List.drop_length_add_append, hf x, flat_drop hf r k]
theorem flat_set {α : Type} {f : α → List Value} {sz : Nat} (hf : ∀ x, (f x).length = sz) (L : List α) (k : Nat) (hk : k < L.length) (x : α) : (L.flatMap f).take (k * sz) ++ f x ++ (L.flatMap f).drop (k * sz + sz) = (L.set k x).flatMap f := by
  rw [flat_take hf, show k * sz + sz = (k + 1) * sz by rw [Nat.succ_mul], flat_drop hf, List.set_eq_take_append_cons_drop, if_pos hk]
  simp

section
variable {X : Ctx} {s : List Ch}
/-- s[:k] of an owned slice is owned -/
theorem OwnO.take {α : Type} {f : α → List Value} {T sz : Nat} (hf : ∀ x, (f x).length = sz) {o : Os} {L : List α} (ho : OwnO f T sz o L) (k : Nat) (hk : k ≤ o.n) : OwnO f T sz ⟨o.a, k, o.c, o.h⟩ (L.take k) := by
  have hn := ho.len
  have hkm : min k L.length = k := by omega
  refine ⟨by simp [hkm], by rw [flatN hf]; simp [hkm], ?_⟩
  rcases ho.2.2 with ⟨h0, h1⟩ | ⟨b, arr, h1, h2, h3, h4, h5, h6⟩
  · exact .inl ⟨by dsimp only; omega, h1⟩
  · refine .inr ⟨b, arr, h1, h2, by dsimp only; omega, h4, h5, ?_⟩
    rw [← flat_take hf, ← h6, List.take_take, Nat.min_eq_left (Nat.mul_le_mul_right _ hk)]
/-- the pointer to an element of an owned slice -/
theorem oidxN {α : Type} {f : α → List Value} (hX : X.Good) {T e : Nat} {te : TI} (hT : elsz X T = some (e, te)) {o : Os} {L : List α} (ho : OwnO f e te.size o L) {x : Int} (k : Nat) (hx : x = k) (hk : k < L.length) {q : TV → Prop}
    (hq : ∀ b, o.a = some ⟨b, 0, none⟩ → q (.v (.pointer (some ⟨b, 0 + k * te.size, none⟩)))) : NeedQ X.P s (Instr.indexAt T o.v (.int .i64 x)) q := by
  obtain ⟨hl, ho⟩ := ho
  exact oidx hX hT ho k hx (by omega) fun b hb => hq b hb
/-- store of an element of many cells -/
theorem ostoN {α : Type} {f : α → List Value} (hX : X.Good) {T e sz : Nat} (hf : ∀ x, (f x).length = sz) {i : Nat} {o : Os} (hi : sget s i = some (.hp o.h)) {b k : Nat} (hb : o.a = some ⟨b, 0, none⟩) {L : List α} (ho : OwnO f e sz o L) (hk : k < L.length)
    {ti : TI} (hT : tget X.tt T = some ti) (h1 : ti.size = sz) (x : α) {v : Value} (hv : v = .agg (f x).toArray) (hone : allOne (f x) = true) (hps : Nat.blt 0 sz = true) {q : List Ch → Prop}
    (hq : ∀ o', o'.a = o.a → o'.n = o.n → o'.c = o.c → OwnO f e sz o' (L.set k x) → q (sset s i (.hp o'.h))) : NeedU X.P s (Instr.storeAt T (.pointer (some ⟨b, 0 + k * sz, none⟩)) v) q := by
  subst hv
  obtain ⟨hl, ho⟩ := ho
  rw [hb] at ho
  have hle : k * sz + sz ≤ o.n * sz := by rw [← Nat.succ_mul]; exact Nat.mul_le_mul_right _ (by omega)
  refine ost hX hi ho hT (by rw [h1]; simp [Value.cells, hf]) (by simpa [Value.cells] using hone) (by rw [h1]; exact hle) (by rw [h1]; exact hps) fun h' ho' => hq ⟨o.a, o.n, o.c, h'⟩ rfl rfl rfl ⟨by simpa using hl, ?_⟩
  rw [hb]
  rw [h1] at ho'
  have : (L.flatMap f).take (k * sz) ++ (Value.agg (f x).toArray).cells.toList ++ (L.flatMap f).drop (k * sz + sz) = (L.set k x).flatMap f := by
    rw [← flat_set hf L k hk x]; simp [Value.cells]
  rw [← this]
  exact ho'
/-- s[k:], not at the end -/
theorem slO (hX : X.Good) {T e : Nat} {te : TI} (hT : elsz X T = some (e, te)) {a : Option Addr} {b n c : Nat} (hb : a = some ⟨b, 0, none⟩) (k : Nat) {ik : IntKind} {x : Int} (hx : x = k) (hk : k < n) (hc : n ≤ c) {q : TV → Prop}
    (hq : q (.v (.slice (some ⟨b, 0 + k * te.size, none⟩) (n - k) (c - k)))) : NeedQ X.P s (Instr.sliceAt T (.slice a n c) (some (.int ik x)) none none) q := by
  subst hb
  refine slq hX hT k n (.inr ⟨_, _, rfl, hx⟩) (.inl ⟨rfl, rfl⟩) (by omega) hc ?_
  rw [if_neg (by omega)]
  simpa [Addr.add_mk] using hq
/-- s[:k] -/
theorem slT (hX : X.Good) {T e : Nat} {te : TI} (hT : elsz X T = some (e, te)) {a : Option Addr} {n c : Nat} (k : Nat) {ik : IntKind} {x : Int} (hx : x = k) (hk : k ≤ c) {q : TV → Prop}
    (hq : q (.v (.slice a k c))) : NeedQ X.P s (Instr.sliceAt T (.slice a n c) none (some (.int ik x)) none) q := by
  refine slq hX hT 0 k (.inl ⟨rfl, rfl⟩) (.inr ⟨_, _, rfl, hx⟩) (by omega) hk ?_
  have : (if c = 0 then a else a.map (·.add (0 * te.size))) = a := by
    split
    · rfl
    · rw [Nat.zero_mul]; cases a with
      | none => rfl
      | some ad => simp [Addr.add]
  rw [this]
  simpa using hq
/-- clear(s[k:]) of an owned slice -/
theorem clrO {α : Type} {f : α → List Value} (hX : X.Good) {T e ty : Nat} {te : TI} (hT : elsz X T = some (e, te)) (hf : ∀ x, (f x).length = te.size) {i : Nat} {o : Os} (hi : sget s i = some (.hp o.h)) {b k : Nat} (hb : o.a = some ⟨b, 0, none⟩) {L : List α} (ho : OwnO f e te.size o L) (hk : k < L.length)
    (hone : allOne te.zero = true) {c' : Nat} {q : TV → List Ch → Prop} (hq : ∀ h', OwnO f e te.size ⟨o.a, k, o.c, h'⟩ (L.take k) → q (.v (.tuple #[])) (sset s i (.hp h'))) :
    NeedE X.P s (Builtin.clear_ #[T] ty #[.slice (some ⟨b, 0 + k * te.size, none⟩) (o.n - k) c']) q := by
  have hn := ho.len
  obtain ⟨hu, hg⟩ := elsz_spec hX hT
  obtain ⟨⟨inf, hinf, hs1, hs2, z, hz, hzc, hzl⟩, _⟩ := hg
  refine ⟨fun w0 w hok => ?_⟩
  rcases ho.2.2 with ⟨h0, h1⟩ | ⟨b', arr, h1, h2, h3, h4, h5, h6⟩
  · omega
  · rw [hb] at h1; cases h1
    have hblk := hok.mem i _ hi b _ h2
    have hnk : o.n - k ≠ 0 := by omega
    have hle : (0 + k * te.size) + (o.n - k) * te.size = o.n * te.size := by rw [Nat.zero_add, ← Nat.add_mul]; congr 1; omega
    have hcap : o.n * te.size ≤ o.c * te.size := Nat.mul_le_mul_right _ h3
    have hzs : (Builtin.zeroCells z.cells (o.n - k)).toList.length = (o.n - k) * te.size := by rw [Array.length_toList, size_zeroCells, hzc]; simp [hzl]
    have hone' : ∀ v ∈ (Builtin.zeroCells z.cells (o.n - k)).toList, v.oneCell' = true := fun v hv => by
      have hv : v ∈ Builtin.zeroCells z.cells (o.n - k) := Array.mem_toList_iff.1 hv
      unfold Builtin.zeroCells at hv
      obtain ⟨t, ht, rfl⟩ := Array.mem_map.1 hv
      have ht : t < (o.n - k) * z.cells.size := by simpa using ht
      have hpos : 0 < z.cells.size := Nat.pos_of_ne_zero fun e => by rw [e] at ht; simp at ht
      have hm := Nat.mod_lt t hpos
      rw [getElem!_pos z.cells (t % z.cells.size) hm]
      refine allOne_sound hone _ ?_
      have hml : t % z.cells.size < te.zero.length := by rw [hzc] at hm ⊢; simpa using hm
      have : z.cells[t % z.cells.size] = te.zero[t % z.cells.size] := by simp [hzc]
      rw [this]; exact List.getElem_mem hml
    have hst := run_storeCells_at X.P b (0 + k * te.size) e (Builtin.zeroCells z.cells (o.n - k)).toList 0 arr w hblk (by rw [hzs]; omega) hone'
    refine ⟨.v (.tuple #[]), _, _, sset s i (.hp (o.h.upd b (.cells (arr.toList.take (0 + k * te.size + 0) ++ (Builtin.zeroCells z.cells (o.n - k)).toList ++ arr.toList.drop (0 + k * te.size + 0 + (Builtin.zeroCells z.cells (o.n - k)).toList.length)).toArray e (0, 0)))), ?_, Own.row hok hi h2, Keep.set hi (fun b cs T e => by cases e), rfl, hq _ ?_⟩
    · obtain ⟨m, hm⟩ : ∃ m, o.n - k = m + 1 := ⟨o.n - k - 1, by omega⟩
      rw [hm] at hst ⊢
      simp only [Nat.add_zero, Nat.zero_add, Array.length_toList, List.append_assoc] at hst ⊢
      simp [Builtin.clear_, run_underlying hu, zeroValue, typeInfo, hinf, hz, hst]
    · have ht := (OwnO.take hf ho k (by omega))
      refine ⟨ht.1, ht.2.1, .inr ⟨b, _, hb, Hp.upd_self _ _ _, by dsimp only; omega, h4, ?_, ?_⟩⟩
      · simp only [List.size_toArray, List.length_append, List.length_take, List.length_drop, Array.length_toList, hzs]
        omega
      · simp only [Nat.zero_add, Nat.add_zero]
        rw [← flat_take hf, ← h6, List.take_take, Nat.min_eq_left (Nat.mul_le_mul_right _ (by omega)), List.append_assoc, List.take_append_of_le_length (by simp; omega), List.take_take, Nat.min_self]
end
end Go.Dw
