/- Contract of the model of layer 50: Example, known. Known returns true. -/
import Derived.Test.YtnlkffccobdbjaaGreatYX7
namespace Go.Proofs.YtnlkffccobdbjaaGreat
open Go Go.RowKit Go.Dw
theorem SlB {α : Type} {R : Enc α} {sz : Nat} {h : Hp} {b : Nat} {cs : List Value} (hb : Bx h b cs) {L : List α} {n : Nat} (hl : n = L.length) (hcs : cs.length = n * sz) (hr : ∀ i (hi : i < L.length), R h L[i] ((cs.drop (i * sz)).take sz)) : Sl R sz h (some ⟨b, 0, none⟩) n n L := by
  refine ⟨hl, Nat.le_refl _, fun i hi => ?_⟩
  have hi' : i < L.length := by omega
  have hle : i * sz + sz ≤ n * sz := by rw [← Nat.succ_mul]; exact Nat.mul_le_mul_right _ (by omega)
  refine ⟨b, 0, (cs.drop (i * sz)).take sz, rfl, by rw [List.length_take, List.length_drop]; omega, hr i hi', fun j v hj => ?_⟩
  rw [List.getElem?_take] at hj
  split at hj
  · rw [List.getElem?_drop] at hj
    have := hb (i * sz + j) v hj
    rwa [← Nat.add_assoc] at this
  · cases hj
theorem ex_sl {b3 b5 b8 T3 T5 T8 : Nat} {w : World} (h3 : (Ch.box b3 [.int .i64 0] T3).h.In w)
    (h5 : (Ch.box b5 [.string ⟨#[97]⟩, .int .i64 3, .string ⟨#[]⟩, .slice none 0 0, .string ⟨#[98]⟩, .int .i64 2, .string ⟨#[]⟩, .slice none 0 0, .string ⟨#[99]⟩, .int .i64 4, .string ⟨#[]⟩, .slice (some ⟨b3, 0, none⟩) 1 1] T5).h.In w)
    (h8 : (Ch.box b8 [.string ⟨#[120]⟩, .slice none 0 0, .string ⟨#[121]⟩, .slice none 0 0] T8).h.In w) :
    Sl encT 4 (Hp.whole w) (some ⟨b5, 0, none⟩) 3 3 exT ∧ Sl encN 2 (Hp.whole w) (some ⟨b8, 0, none⟩) 2 2 exS := by
  have s3 : Sl (encF fI) 1 (Hp.whole w) (some ⟨b3, 0, none⟩) 1 1 [0] := Sl.box (f := fI) (fun _ => rfl) (by decide) h3 [0] rfl rfl (by decide)
  have z0 : Sl (encF fI) 1 (Hp.whole w) none 0 0 [] := Sd.nil_rd _
  have z1 : Sl (encF fS) 1 (Hp.whole w) none 0 0 [] := ⟨rfl, Nat.le_refl _, fun i hi => absurd hi (Nat.not_lt_zero i)⟩
  refine ⟨SlB (Bx.of h5) rfl rfl fun i hi => ?_, SlB (Bx.of h8) rfl rfl fun i hi => ?_⟩
  · have hi : i < 3 := hi
    match i, hi with
    | 0, _ => exact ⟨none, 0, 0, rfl, z0⟩
    | 1, _ => exact ⟨none, 0, 0, rfl, z0⟩
    | 2, _ => exact ⟨some ⟨b3, 0, none⟩, 1, 1, rfl, s3⟩
  · have hi : i < 2 := hi
    match i, hi with
    | 0, _ => exact ⟨none, 0, 0, rfl, z1⟩
    | 1, _ => exact ⟨none, 0, 0, rfl, z1⟩
/-- the example, handed back -/
def RetX (w : World) : Ending → World → Prop := Ret w fun v cs => ∃ b3 b5 b8 : Nat, v = sv (some ⟨b5, 0, none⟩) 3 3 (some ⟨b8, 0, none⟩) 2 2 ∧
  cs = [.box b3 [.int .i64 0] 3, .box b5 [.string ⟨#[97]⟩, .int .i64 3, .string ⟨#[]⟩, .slice none 0 0, .string ⟨#[98]⟩, .int .i64 2, .string ⟨#[]⟩, .slice none 0 0, .string ⟨#[99]⟩, .int .i64 4, .string ⟨#[]⟩, .slice (some ⟨b3, 0, none⟩) 1 1] 64,
    .box b8 [.string ⟨#[120]⟩, .slice none 0 0, .string ⟨#[121]⟩, .slice none 0 0] 60]
theorem Example50_spec (w : World) : CallsE Tryz.prog 47 #[] w (RetX w) := by
  refine enter (X := cx 10) (cxg _) (args := []) [.cell 0 25] Tryz.func47 rfl rfl rfl rfl rfl ?_
  intro b0
  intro b3
  intro b5
  intro b8
  exact ⟨_, ⟨b3, b5, b8, rfl, rfl⟩, fun w' h => h.pick [0, 2, 3, 4] rfl rfl⟩
end Go.Proofs.YtnlkffccobdbjaaGreat
