/- Appending to a slice without spare capacity that lies in a box. No condition. -/
import Derived.Test.YtdjhgcpmipglfaaDwi
namespace Go.Dw
open Go Go.RowKit
section
variable {X : Ctx} {s : List Ch}
theorem appB {α : Type} {f : α → List Value} (hX : X.Good) {T e ty : Nat} {te : TI} (hT : elsz X T = some (e, te)) (hf : ∀ x, (f x).length = te.size) {i b T' n : Nat} {cs : List Value} (hi : sget s i = some (.box b cs T')) {L : List α}
    (hL : cs = L.flatMap f) (hn : n = L.length) {a : Option Addr} {m c : Nat} {L' : List α} {k : Nat} {h' : Hp} (hk : sget s k = some (.hp h')) (hs : Sl (encF f) te.size h' a m c L')
    (hby : Nat.ble te.bytes 140 = true) (hln : L.length + L'.length < 1000000000000) {q : TV → List Ch → Prop}
    (h0 : L' = [] → q (.v (.slice (some ⟨b, 0, none⟩) n n)) s)
    (hq : L' ≠ [] → ∀ o', OwnO f e te.size o' (L ++ L') → o'.a ≠ none → q (.v o'.v) (s ++ [.hp o'.h])) :
    NeedA X.P s #[T, T] ty (.slice (some ⟨b, 0, none⟩) n n) (.v (.slice a m c)) q := by
  obtain ⟨hu, hg⟩ := elsz_spec hX hT
  obtain ⟨⟨inf, hinf, hs1, hs2, z, hz, hzc, hzl⟩, _⟩ := hg
  have hb := Nat.le_of_ble_eq_true hby
  have hml := hs.len
  have hmu := Nat.mul_le_mul (show n + m ≤ 1000000000000 by omega) hb
  have fl : ∀ L : List α, (L.flatMap f).length = L.length * te.size := fun L => by
    induction L with
    | nil => simp
    | cons x r ih => simp [List.flatMap_cons, hf, ih, Nat.succ_mul, Nat.add_comm]
  refine ⟨.slice a m c, rfl, ⟨fun w0 w hok => ?_⟩⟩
  rcases Nat.eq_zero_or_pos m with hm | hm
  · have hL0 : L' = [] := List.eq_nil_of_length_eq_zero (by omega)
    subst hL0 hm
    refine ⟨_, _, w, s, ?_, hok, Keep.refl s, rfl, h0 rfl⟩
    cases a with
    | none => simp [Builtin.append_, run_underlying hu, sizeOf, typeInfo, hinf, Builtin.lenOf, Builtin.firstCells, storeCells]
    | some a => simp [Builtin.append_, run_underlying hu, sizeOf, typeInfo, hinf, Builtin.lenOf, Builtin.firstCells, loadCells, loadCellsFrom, storeCells]
  · have hL1 : L' ≠ [] := by rintro rfl; simp at hml; omega
    rcases hs.src hf (hok.mem k _ hk) with ⟨_, _, hm0⟩ | ⟨ad, c', hv, hcells⟩
    · omega
    cases hv
    have hsm : n + m ≤ maxLen := by simp only [maxLen]; omega
    have hge := grownCap_ge w (n + m) n e
    have hcm := grownCap_le_maxLen w (n + m) n e hsm
    have hcl : cs.length = n * te.size := by rw [hL, fl, hn]
    have hr := run_append_grow (P := X.P) w T ty e inf z hu hinf hz ⟨b, 0, none⟩ n n cs (by rw [hs1]; exact hcl) (fun j v hj => by
      have := box_cell hok.mem hi hj
      rw [Addr.add_mk, Nat.zero_add]; exact this) ad m c (L'.flatMap f) (by rw [hs1, fl, hml]) hcells (by omega) (by omega) (growslice_fits (by omega) (by rw [hs2]; omega))
    refine ⟨.v _, _, _, _, hr, hok.drew.alloc (.hp (Hp.one w.heap.size _)) _ rfl, Keep.app _ _, rfl, ?_⟩
    refine hq hL1 ⟨some ⟨w.heap.size, 0, none⟩, n + m, grownCap w (n + m) n e, Hp.one w.heap.size (.cells (cs.toArray ++ (L'.flatMap f).toArray ++ Builtin.zeroCells z.cells (grownCap w (n + m) n e - (n + m))) e)⟩
      ⟨by simp [hn, hml], ?_, .inr ⟨_, _, rfl, Hp.one_self _ _, hge, hcm, ?_, ?_⟩⟩ (fun h => by cases h)
    · rw [fl]; simp [hn, hml]
    · simp only [Array.size_append, List.size_toArray, size_zeroCells, hzc, hzl, hcl, fl, ← hml, ← Nat.add_mul]
      congr 1; omega
    · have hL2 : (L ++ L').flatMap f = cs ++ L'.flatMap f := by rw [List.flatMap_append, hL]
      rw [hL2]
      simp only [Array.toList_append, List.append_assoc]
      rw [← List.append_assoc]
      have : (cs ++ L'.flatMap f).length = (n + m) * te.size := by rw [List.length_append, hcl, fl, ← hml, Nat.add_mul]
      rw [← this]
      exact List.take_left
/-- what follows a region, hidden while the region is walked -/
theorem hideQ {all r : List Oper} {q : Tm → List Ch → Prop} {t : Tm} (h : ∀ q' : Tm → List Ch → Prop, (∀ t s, q t s → q' t s) → wops X all r q' t s) : wops X all r q t s := h q fun _ _ h => h
theorem wops_app {all : List Oper} {q : Tm → List Ch → Prop} : ∀ (r1 r2 : List Oper) (t : Tm) (s : List Ch), wops X all (r1 ++ r2) q t s = wops X all r1 (fun t s => wops X all r2 q t s) t s
  | [], _, _, _ => rfl
  | o :: r1, r2, t, s => by
    have ih := wops_app (all := all) (q := q) r1 r2
    simp only [List.cons_append, wops, ih]
/-- the first k operations of a region; what follows is hidden meanwhile -/
theorem hideK (k : Nat) {all r : List Oper} {q : Tm → List Ch → Prop} {t : Tm} (h : ∀ q' : Tm → List Ch → Prop, (∀ t s, wops X all (r.drop k) q t s → q' t s) → wops X all (r.take k) q' t s) : wops X all r q t s := by
  have e := wops_app (X := X) (all := all) (q := q) (r.take k) (r.drop k) t s
  rw [List.take_append_drop] at e
  rw [e]
  exact h _ fun _ _ h => h
/-- the chunks, written out -/
theorem normS {all r : List Oper} {q : Tm → List Ch → Prop} {t : Tm} {s : List Ch} (s' : List Ch) (hs : s = s') (h : wops X all r q t s') : wops X all r q t s := by subst hs; exact h
/-- an element of an array, by its pointer -/
theorem idxA (hX : X.Good) {T e len : Nat} {te ti : TI} (ht : tget X.tt T = some ti) (hk : ti.k = .ar len e) (hte : tget X.tt e = some te) {b off : Nat} {k : IntKind} {x : Int} (m : Nat) (hx : x = m) (hm : Nat.blt m len = true) {q : TV → Prop}
    (hq : q (.v (.pointer (some ⟨b, off + m * te.size, none⟩)))) : NeedQ X.P s (Instr.indexAt T (.pointer (some ⟨b, off, none⟩)) (.int k x)) q := by
  subst hx
  have hlt : m < len := by simpa [Nat.blt_eq] using hm
  refine ⟨_, fun w _ => ?_, hq⟩
  obtain ⟨_, sz, by', z⟩ := ti
  dsimp only at hk
  subst hk
  have hu := (Good.und hX ht).2
  have hun : (underlying T).run X.P w = .ok (.array len e) w := by simp [underlying, show X.P.underlying T = _ from hu]
  have hsz := (Good.und hX hte).size w
  simp only [Instr.indexAt, asIntOf, Sem.run_bind, Sem.run_pure, Result.andThen_ok, hun, Instr.sureAddr]
  have c : (0 : Int) ≤ (m : Int) ∧ (m : Int) < (len : Int) := ⟨Int.natCast_nonneg m, by omega⟩
  rw [if_pos c]
  simp [hsz, Addr.add_mk]
end
end Go.Dw
