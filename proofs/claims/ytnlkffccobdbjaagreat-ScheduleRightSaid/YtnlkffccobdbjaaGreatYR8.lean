/- Reading an order (bytes) among a law's arguments. No condition of its own. -/
import Derived.Test.YtnlkffccobdbjaaGreatYR6
namespace Go.Dw
open Go Go.RowKit Go.ChangeShapes Go.WideShapes Go.ChangeAt
section
variable {H : Type} {enc : TypeId × Value → H} {P : Program} {W : World} {sp : Nat → Bool} {held : Bool}
abbrev Oct := { x : Int // 0 ≤ x ∧ x ≤ 255 }
theorem oct_bounds {n : Int} (h : (Lit.int .u8 n).wf = true) : 0 ≤ n ∧ n ≤ 255 := by
  simp only [Lit.wf, Bool.and_eq_true, decide_eq_true_eq] at h
  have h1 : IntKind.u8.min = 0 := rfl
  have h2 : IntKind.u8.max = 255 := rfl
  omega
theorem Sl.mapO {α β : Type} {f : α → List Value} {g : β → List Value} {u : α → β} (e : ∀ x, f x = g (u x)) {n : Nat} {h : Hp} {a : Option Addr} {m c : Nat} {L : List α} (hs : Sl (encF f) n h a m c L) : Sl (encF g) n h a m c (L.map u) := by
  refine ⟨by rw [List.length_map]; exact hs.len, hs.cap, fun i hi => ?_⟩
  rw [List.length_map] at hi
  obtain ⟨b, off, cs, h1, h2, h3, h4⟩ := hs.cells i hi
  refine ⟨b, off, cs, h1, h2, ?_, h4⟩
  rw [List.getElem_map]
  unfold encF at h3 ⊢
  rw [h3, e]
theorem open_octs {t e : TypeId} (he : P.underlying e = some (.int .u8)) (hc : P.cellsOf e = 1) (ht : P.underlying t = some (.slice e)) {fuel : Nat} {cs : List Value} {y : DataW H × List MemPlace} (h : DataW.trod enc P W 0 sp held fuel t cs = some y) :
    ∃ a m c L, cs = [.slice a m c] ∧ Sl (encF fun x : Int => [.int .u8 x]) 1 (Hp.whole W) a m c L ∧ ∀ u ∈ L, 0 ≤ u ∧ u ≤ 255 := by
  haveI : Inhabited Oct := ⟨⟨0, by decide⟩⟩
  obtain ⟨a, m, c, L, h1, h2⟩ := open_slice (α := Oct) (f := fun x => [.int .u8 x.1]) ht hc (by decide) (fun _ _ _ h => by
    obtain ⟨n, e1, _, hw⟩ := DataW.trod_int he h
    exact ⟨⟨n, oct_bounds hw⟩, e1⟩) (fun g x h => by
    obtain ⟨p, e, f0⟩ := range_mapM1 h
    rw [e]
    refine ⟨rfl, fun j v hj => ?_⟩
    match j, hj with
    | 0, hj => cases hj; exact f0) h
  refine ⟨a, m, c, L.map Subtype.val, h1, Sl.mapO (u := Subtype.val) (fun _ => rfl) h2, fun u hu => ?_⟩
  obtain ⟨x, _, rfl⟩ := List.mem_map.1 hu
  exact x.2
end
end Go.Dw
namespace Go.Proofs.YtnlkffccobdbjaaGreat
open Go Go.RowKit Go.Dw Go.ChangeShapes Go.WideShapes Go.ChangeAt
section
variable {H : Type} {enc : TypeId × Value → H} {W : World} {r : Reach} {b0 : Nat} {v : Value} {d : DataW H} {ps : List MemPlace} {sp : Nat → Bool} {held : Bool}
theorem c_u8 : Tryz.prog.cellsOf 5 = 1 := by kernel_rfl
set_option maxRecDepth 100000 in
theorem openOrder (hval : Value.okWide Tryz.prog W r b0 44 v) (hd : DataW.Trod enc Tryz.prog W 0 (fun _ => true) true 44 v d ps) : ∃ a n c L, v = .slice a n c ∧ Sl (encF fun x : Int => [Value.int .u8 x]) 1 (Hp.whole W) a n c L ∧ ∀ u ∈ L, 0 ≤ u ∧ u ≤ 255 := by
  obtain ⟨a, n, c, rfl⟩ := Go.Dw.okWide_slice Tryz.underlying44 hval
  obtain ⟨fuel, hf⟩ := hd
  obtain ⟨a', n', c', L, e, hs, hb⟩ := open_octs Tryz.underlying5 c_u8 Tryz.underlying44 hf
  simp [Value.cells] at e
  obtain ⟨rfl, rfl, rfl⟩ := e
  exact ⟨_, _, _, L, rfl, hs, hb⟩
end
end Go.Proofs.YtnlkffccobdbjaaGreat
