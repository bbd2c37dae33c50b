/- Parts of one proof, joined: R6, R8. No condition of its own. -/
import Derived.Test.YtnlkffccobdbjaaGreatXF
import Derived.Test.YtnlkffccobdbjaaGreatXK
namespace Go.Dw
open Go Go.RowKit Go.ChangeShapes Go.WideShapes Go.ChangeAt
section
variable {H : Type} {enc : TypeId × Value → H} {P : Program} {W : World} {sp : Nat → Bool} {held : Bool}
theorem mapM_get {α β : Type} {g : α → Option β} : ∀ {l : List α} {cs : List β}, l.mapM g = some cs → cs.length = l.length ∧ ∀ (j : Nat) (v : β), cs[j]? = some v → ∃ i, l[j]? = some i ∧ g i = some v
  | [], cs, h => by
    rw [List.mapM_nil] at h
    cases h
    exact ⟨rfl, fun j v h => by simp at h⟩
  | x :: l, cs, h => by
    simp only [List.mapM_cons, Option.bind_eq_bind, Option.bind_eq_some_iff, Option.pure_def, Option.some.injEq] at h
    obtain ⟨y, hy, ys, hys, rfl⟩ := h
    obtain ⟨h1, h2⟩ := mapM_get hys
    refine ⟨by simp [h1], fun j v hj => ?_⟩
    match j, hj with
    | 0, hj => cases hj; exact ⟨x, rfl, hy⟩
    | j + 1, hj => exact h2 j v hj
/-- a slice whose elements read each as one of α -/
theorem open_sliceR {α : Type} [Inhabited α] {R : Enc α} {t e : TypeId} {n : Nat} (ht : P.underlying t = some (.slice e)) (hc : P.cellsOf e = n) (hn : 0 < n)
    (hf : ∀ fuel cs (y : DataW H × List MemPlace), DataW.trod enc P W 0 sp held fuel e cs = some y → ∃ x : α, R (Hp.whole W) x cs)
    {fuel : Nat} {cs : List Value} {y : DataW H × List MemPlace} (h : DataW.trod enc P W 0 sp held fuel t cs = some y) :
    ∃ a m c L, cs = [.slice a m c] ∧ Sl R n (Hp.whole W) a m c L := by
  rcases DataW.trod_slice ht h with ⟨h0, _⟩ | ⟨a, len, cap, elems, rest, k, _, rfl, _, hb, hl, _, hlen, hel, _, _⟩
  · exact ⟨none, 0, 0, [], h0, Sl.nil _ _ _ _ _⟩
  rw [hc] at hel
  have each : ∀ i, i < len → ∃ (x : α × List Value), R (Hp.whole W) x.1 x.2 ∧ x.2.length = n ∧ ∀ j v, x.2[j]? = some v → W.cell? ((a.add (i * n)).add j) = some v := by
    intro i hi
    have h1 := hel i hi
    rw [List.getElem?_eq_getElem (by omega), Option.bind_eq_some_iff] at h1
    obtain ⟨cs', hcs, hy⟩ := h1
    obtain ⟨x, hx⟩ := hf _ _ _ hy
    unfold World.cells? at hcs
    rw [if_pos (Nat.zero_le _)] at hcs
    obtain ⟨g1, g2⟩ := mapM_get hcs
    rw [List.length_range] at g1
    refine ⟨(x, cs'), hx, g1, fun j v hj => ?_⟩
    obtain ⟨q, hq, hv⟩ := g2 j v hj
    have hjn : j < n := by rw [← g1]; exact (List.getElem?_eq_some_iff.1 hj).1
    rw [List.getElem?_range hjn] at hq
    cases hq
    exact hv
  obtain ⟨g, hg⟩ : ∃ g : Nat → α × List Value, ∀ i, i < len → R (Hp.whole W) (g i).1 (g i).2 ∧ (g i).2.length = n ∧ ∀ j v, (g i).2[j]? = some v → W.cell? ((a.add (i * n)).add j) = some v := by
    refine ⟨fun i => if h : i < len then (each i h).choose else (default, []), fun i hi => ?_⟩
    simp only [hi, ↓reduceDIte]
    exact (each i hi).choose_spec
  refine ⟨some a, len, cap, (List.range len).map fun i => (g i).1, rfl, by simp, hl, fun i hi => ?_⟩
  simp only [List.length_map, List.length_range] at hi
  obtain ⟨b, off, rfl⟩ : ∃ b off, a = ⟨b, off, none⟩ := by
    obtain ⟨_, h1, h2⟩ := hg 0 (by omega)
    have := h2 0 _ (List.getElem?_eq_getElem (by omega))
    rw [Nat.zero_mul] at this
    simp only [Addr.add, ↓reduceIte] at this
    exact cell_spot this
  obtain ⟨h0, h1, h2⟩ := hg i hi
  refine ⟨b, off, (g i).2, rfl, h1, by simpa using h0, fun j v hj => ?_⟩
  have := h2 j v hj
  rw [Addr.add_mk, Addr.add_mk] at this
  exact this
theorem trod_fld {t : TypeId} {fs : Array Field} {fuel : Nat} {cs : List Value} {x : DataW H × List MemPlace} (ht : P.underlying t = some (.struct fs)) (h : DataW.trod enc P W 0 sp held fuel t cs = some x) :
    cs.length = P.cellsOf t ∧ ∃ n, ∀ (i : Nat) (f : Field), fs[i]? = some f → ∃ y, DataW.trod enc P W 0 sp held n f.type ((cs.drop f.offset).take (P.cellsOf f.type)) = some y := by
  obtain ⟨xs, n, _, rfl, hl, hlen, hf⟩ := DataW.trod_struct ht h
  refine ⟨hl, n, fun i f hi => ?_⟩
  have h1 := hf i f hi
  have hi' : i < xs.length := by rw [hlen]; exact (Array.getElem?_eq_some_iff.1 hi).1
  rw [List.getElem?_eq_getElem hi'] at h1
  exact ⟨_, h1⟩
theorem trod_fld2 {t : TypeId} {F0 F1 : Field} {fuel : Nat} {cs : List Value} {x : DataW H × List MemPlace} (ht : P.underlying t = some (.struct #[F0, F1])) (h : DataW.trod enc P W 0 sp held fuel t cs = some x) :
    cs.length = P.cellsOf t ∧ ∃ n, (∃ y, DataW.trod enc P W 0 sp held n F0.type ((cs.drop F0.offset).take (P.cellsOf F0.type)) = some y) ∧ (∃ y, DataW.trod enc P W 0 sp held n F1.type ((cs.drop F1.offset).take (P.cellsOf F1.type)) = some y) := by
  obtain ⟨h1, n, h2⟩ := trod_fld ht h
  exact ⟨h1, n, h2 0 F0 rfl, h2 1 F1 rfl⟩
theorem trod_fld3 {t : TypeId} {F0 F1 F2 : Field} {fuel : Nat} {cs : List Value} {x : DataW H × List MemPlace} (ht : P.underlying t = some (.struct #[F0, F1, F2])) (h : DataW.trod enc P W 0 sp held fuel t cs = some x) :
    cs.length = P.cellsOf t ∧ ∃ n, (∃ y, DataW.trod enc P W 0 sp held n F0.type ((cs.drop F0.offset).take (P.cellsOf F0.type)) = some y) ∧ (∃ y, DataW.trod enc P W 0 sp held n F1.type ((cs.drop F1.offset).take (P.cellsOf F1.type)) = some y) ∧ (∃ y, DataW.trod enc P W 0 sp held n F2.type ((cs.drop F2.offset).take (P.cellsOf F2.type)) = some y) := by
  obtain ⟨h1, n, h2⟩ := trod_fld ht h
  exact ⟨h1, n, h2 0 F0 rfl, h2 1 F1 rfl, h2 2 F2 rfl⟩
theorem trod_fld4 {t : TypeId} {F0 F1 F2 F3 : Field} {fuel : Nat} {cs : List Value} {x : DataW H × List MemPlace} (ht : P.underlying t = some (.struct #[F0, F1, F2, F3])) (h : DataW.trod enc P W 0 sp held fuel t cs = some x) :
    cs.length = P.cellsOf t ∧ ∃ n, (∃ y, DataW.trod enc P W 0 sp held n F0.type ((cs.drop F0.offset).take (P.cellsOf F0.type)) = some y) ∧ (∃ y, DataW.trod enc P W 0 sp held n F1.type ((cs.drop F1.offset).take (P.cellsOf F1.type)) = some y) ∧ (∃ y, DataW.trod enc P W 0 sp held n F2.type ((cs.drop F2.offset).take (P.cellsOf F2.type)) = some y) ∧ (∃ y, DataW.trod enc P W 0 sp held n F3.type ((cs.drop F3.offset).take (P.cellsOf F3.type)) = some y) := by
  obtain ⟨h1, n, h2⟩ := trod_fld ht h
  exact ⟨h1, n, h2 0 F0 rfl, h2 1 F1 rfl, h2 2 F2 rfl, h2 3 F3 rfl⟩
theorem len2 {cs : List Value} (h : cs.length = 2) : ∃ p q, cs = [p, q] := by
  match cs, h with
  | [p, q], _ => exact ⟨p, q, rfl⟩
theorem len3 {cs : List Value} (h : cs.length = 3) : ∃ p q s, cs = [p, q, s] := by
  match cs, h with
  | [p, q, s], _ => exact ⟨p, q, s, rfl⟩
theorem len4 {cs : List Value} (h : cs.length = 4) : ∃ p q s u, cs = [p, q, s, u] := by
  match cs, h with
  | [p, q, s, u], _ => exact ⟨p, q, s, u, rfl⟩
end
end Go.Dw
namespace Go.Proofs.YtnlkffccobdbjaaGreat
open Go Go.RowKit Go.Dw Go.ChangeShapes Go.WideShapes Go.ChangeAt
section
variable {H : Type} {enc : TypeId × Value → H} {W : World} {r : Reach} {b0 : Nat} {v : Value} {d : DataW H} {ps : List MemPlace} {sp : Nat → Bool} {held : Bool}
theorem c_string : Tryz.prog.cellsOf 9 = 1 := by kernel_rfl
theorem c_int : Tryz.prog.cellsOf 3 = 1 := by kernel_rfl
theorem c_ints : Tryz.prog.cellsOf 28 = 1 := by kernel_rfl
theorem c_strs : Tryz.prog.cellsOf 58 = 1 := by kernel_rfl
theorem c_task : Tryz.prog.cellsOf 64 = 4 := by kernel_rfl
theorem c_stat : Tryz.prog.cellsOf 60 = 2 := by kernel_rfl
theorem c_tasks : Tryz.prog.cellsOf 22 = 1 := by kernel_rfl
theorem c_stats : Tryz.prog.cellsOf 23 = 1 := by kernel_rfl
theorem c_shop : Tryz.prog.cellsOf 25 = 2 := by kernel_rfl
theorem c_proof : Tryz.prog.cellsOf 30 = 3 := by kernel_rfl
set_option maxRecDepth 100000 in
theorem tr_ints {fuel : Nat} {cs : List Value} {y : DataW H × List MemPlace} (h : DataW.trod enc Tryz.prog W 0 sp held fuel 28 cs = some y) : ∃ a m c L, cs = [.slice a m c] ∧ Sl (encF fI) 1 (Hp.whole W) a m c L :=
  open_intsC Tryz.underlying3 c_int Tryz.underlying28 h
set_option maxRecDepth 100000 in
theorem tr_strs {fuel : Nat} {cs : List Value} {y : DataW H × List MemPlace} (h : DataW.trod enc Tryz.prog W 0 sp held fuel 58 cs = some y) : ∃ a m c L, cs = [.slice a m c] ∧ Sl (encF fS) 1 (Hp.whole W) a m c L :=
  open_sliceR (α := ByteArray) Tryz.underlying58 c_string (by decide) (fun _ _ _ h => by
    obtain ⟨s, e, _⟩ := DataW.trod_string Tryz.underlying9 h
    exact ⟨s, e⟩) h
set_option maxRecDepth 100000 in
theorem tr_task {fuel : Nat} {cs : List Value} {y : DataW H × List MemPlace} (h : DataW.trod enc Tryz.prog W 0 sp held fuel 64 cs = some y) : ∃ t : Tk, encT (Hp.whole W) t cs := by
  obtain ⟨hl, n, ⟨y0, k0⟩, ⟨y1, k1⟩, ⟨y2, k2⟩, ⟨y3, k3⟩⟩ := trod_fld4 Tryz.underlying64 h
  dsimp only at k0 k1 k2 k3
  rw [c_task] at hl
  obtain ⟨p, q, s, u, rfl⟩ := len4 hl
  rw [c_string] at k0 k2
  rw [c_int] at k1
  rw [c_ints] at k3
  obtain ⟨nm, e0, _⟩ := DataW.trod_string Tryz.underlying9 k0
  obtain ⟨du, e1, _⟩ := DataW.trod_int Tryz.underlying3 k1
  obtain ⟨tl, e2, _⟩ := DataW.trod_string Tryz.underlying9 k2
  obtain ⟨a, m, c, L, e3, hs⟩ := tr_ints k3
  simp at e0 e1 e2 e3
  exact ⟨⟨nm, du, tl, L⟩, a, m, c, by rw [e0, e1, e2, e3], hs⟩
set_option maxRecDepth 100000 in
theorem tr_stat {fuel : Nat} {cs : List Value} {y : DataW H × List MemPlace} (h : DataW.trod enc Tryz.prog W 0 sp held fuel 60 cs = some y) : ∃ t : Sn, encN (Hp.whole W) t cs := by
  obtain ⟨hl, n, ⟨y0, k0⟩, ⟨y1, k1⟩⟩ := trod_fld2 Tryz.underlying60 h
  dsimp only at k0 k1
  rw [c_stat] at hl
  obtain ⟨p, q, rfl⟩ := len2 hl
  rw [c_string] at k0
  rw [c_strs] at k1
  obtain ⟨nm, e0, _⟩ := DataW.trod_string Tryz.underlying9 k0
  obtain ⟨a, m, c, L, e1, hs⟩ := tr_strs k1
  simp at e0 e1
  exact ⟨⟨nm, L⟩, a, m, c, by rw [e0, e1], hs⟩
set_option maxRecDepth 100000 in
theorem openShop (hval : Value.okWide Tryz.prog W r b0 25 v) (hd : DataW.Trod enc Tryz.prog W 0 (fun _ => true) true 25 v d ps) :
    ∃ a n c a' n' c' TT SS, v = sv a n c a' n' c' ∧ Sl encT 4 (Hp.whole W) a n c TT ∧ Sl encN 2 (Hp.whole W) a' n' c' SS := by
  obtain ⟨xs, rfl, _⟩ := okWide_struct Tryz.underlying25 hval
  obtain ⟨fuel, hf⟩ := hd
  obtain ⟨hl, n, ⟨y0, k0⟩, ⟨y1, k1⟩⟩ := trod_fld2 Tryz.underlying25 hf
  dsimp only at k0 k1
  rw [c_shop] at hl
  obtain ⟨l⟩ := xs
  simp only [Value.cells] at *
  obtain ⟨p, q, rfl⟩ := len2 hl
  rw [c_tasks] at k0
  rw [c_stats] at k1
  obtain ⟨a, m, c, TT, e0, hT⟩ := open_sliceR (α := Tk) Tryz.underlying22 c_task (by decide) (fun _ _ _ h => tr_task h) k0
  obtain ⟨a', m', c', SS, e1, hS⟩ := open_sliceR (α := Sn) Tryz.underlying23 c_stat (by decide) (fun _ _ _ h => tr_stat h) k1
  simp at e0 e1
  exact ⟨a, m, c, a', m', c', TT, SS, by rw [e0, e1]; rfl, hT, hS⟩
set_option maxRecDepth 100000 in
theorem openProof (hval : Value.okWide Tryz.prog W r b0 30 v) (hd : DataW.Trod enc Tryz.prog W 0 (fun _ => true) true 30 v d ps) :
    ∃ a n c a' n' c' a2 n2 c2 C T S, v = .agg #[.slice a n c, .slice a' n' c', .slice a2 n2 c2] ∧ Sl (encF fI) 1 (Hp.whole W) a n c C ∧ Sl (encF fI) 1 (Hp.whole W) a' n' c' T ∧ Sl (encF fI) 1 (Hp.whole W) a2 n2 c2 S := by
  obtain ⟨xs, rfl, _⟩ := okWide_struct Tryz.underlying30 hval
  obtain ⟨fuel, hf⟩ := hd
  obtain ⟨hl, n, ⟨y0, k0⟩, ⟨y1, k1⟩, ⟨y2, k2⟩⟩ := trod_fld3 Tryz.underlying30 hf
  dsimp only at k0 k1 k2
  rw [c_proof] at hl
  obtain ⟨l⟩ := xs
  simp only [Value.cells] at *
  obtain ⟨p, q, s, rfl⟩ := len3 hl
  rw [c_ints] at k0 k1 k2
  obtain ⟨a, m, c, C, e0, h0⟩ := tr_ints k0
  obtain ⟨a', m', c', T, e1, h1⟩ := tr_ints k1
  obtain ⟨a2, m2, c2, S, e2, h2⟩ := tr_ints k2
  simp at e0 e1 e2
  exact ⟨a, m, c, a', m', c', a2, m2, c2, C, T, S, by rw [e0, e1, e2], h0, h1, h2⟩
end
end Go.Proofs.YtnlkffccobdbjaaGreat
namespace Go.Dw
open Go Go.RowKit Go.ChangeShapes Go.WideShapes Go.ChangeAt
section
variable {H : Type} {enc : TypeId × Value → H} {P : Program} {W : World} {sp : Nat → Bool} {held : Bool}
abbrev Oct := { x : Int // 0 ≤ x ∧ x ≤ 255 }
theorem oct_bounds {n : Int} (h : (Lit.int .u8 n).wf = true) : 0 ≤ n ∧ n ≤ 255 := by
  simp only [Lit.wf, Bool.and_eq_true, decide_eq_true_eq] at h
  have h1 : IntKind.u8.min = 0 := rfl
  have h2 : IntKind.u8.max = 255 := rfl
  omega
theorem Sl.mapO {α β : Type} {f : α → List Value} {g : β → List Value} {u : α → β} (e : ∀ x, f x = g (u x)) {n : Nat} {h : Hp} {a : Option Addr} {m c : Nat} {L : List α} (hs : Sl (encF f) n h a m c L) : Sl (encF g) n h a m c (L.map u) := by
  refine ⟨by rw [List.length_map]; exact hs.len, hs.cap, fun i hi => ?_⟩
  rw [List.length_map] at hi
  obtain ⟨b, off, cs, h1, h2, h3, h4⟩ := hs.cells i hi
  refine ⟨b, off, cs, h1, h2, ?_, h4⟩
  rw [List.getElem_map]
  unfold encF at h3 ⊢
  rw [h3, e]
theorem open_octs {t e : TypeId} (he : P.underlying e = some (.int .u8)) (hc : P.cellsOf e = 1) (ht : P.underlying t = some (.slice e)) {fuel : Nat} {cs : List Value} {y : DataW H × List MemPlace} (h : DataW.trod enc P W 0 sp held fuel t cs = some y) :
    ∃ a m c L, cs = [.slice a m c] ∧ Sl (encF fun x : Int => [.int .u8 x]) 1 (Hp.whole W) a m c L ∧ ∀ u ∈ L, 0 ≤ u ∧ u ≤ 255 := by
  haveI : Inhabited Oct := ⟨⟨0, by decide⟩⟩
  obtain ⟨a, m, c, L, h1, h2⟩ := open_slice (α := Oct) (f := fun x => [.int .u8 x.1]) ht hc (by decide) (fun _ _ _ h => by
    obtain ⟨n, e1, _, hw⟩ := DataW.trod_int he h
    exact ⟨⟨n, oct_bounds hw⟩, e1⟩) (fun g x h => by
    obtain ⟨p, e, f0⟩ := range_mapM1 h
    rw [e]
    refine ⟨rfl, fun j v hj => ?_⟩
    match j, hj with
    | 0, hj => cases hj; exact f0) h
  refine ⟨a, m, c, L.map Subtype.val, h1, Sl.mapO (u := Subtype.val) (fun _ => rfl) h2, fun u hu => ?_⟩
  obtain ⟨x, _, rfl⟩ := List.mem_map.1 hu
  exact x.2
end
end Go.Dw
namespace Go.Proofs.YtnlkffccobdbjaaGreat
open Go Go.RowKit Go.Dw Go.ChangeShapes Go.WideShapes Go.ChangeAt
section
variable {H : Type} {enc : TypeId × Value → H} {W : World} {r : Reach} {b0 : Nat} {v : Value} {d : DataW H} {ps : List MemPlace} {sp : Nat → Bool} {held : Bool}
theorem c_u8 : Tryz.prog.cellsOf 5 = 1 := by kernel_rfl
set_option maxRecDepth 100000 in
theorem openOrder (hval : Value.okWide Tryz.prog W r b0 44 v) (hd : DataW.Trod enc Tryz.prog W 0 (fun _ => true) true 44 v d ps) : ∃ a n c L, v = .slice a n c ∧ Sl (encF fun x : Int => [Value.int .u8 x]) 1 (Hp.whole W) a n c L ∧ ∀ u ∈ L, 0 ≤ u ∧ u ≤ 255 := by
  obtain ⟨a, n, c, rfl⟩ := Go.Dw.okWide_slice Tryz.underlying44 hval
  obtain ⟨fuel, hf⟩ := hd
  obtain ⟨a', n', c', L, e, hs, hb⟩ := open_octs Tryz.underlying5 c_u8 Tryz.underlying44 hf
  simp [Value.cells] at e
  obtain ⟨rfl, rfl, rfl⟩ := e
  exact ⟨_, _, _, L, rfl, hs, hb⟩
end
end Go.Proofs.YtnlkffccobdbjaaGreat
