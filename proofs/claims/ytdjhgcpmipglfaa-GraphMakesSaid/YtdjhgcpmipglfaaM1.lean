/- The law GraphMakes returns true. Its premises are its arguments' form. -/
import Derived.Test.YtdjhgcpmipglfaaL4
namespace Go.Proofs.Ytdjhgcpmipglfaa
open Go Go.RowKit Go.Dw
theorem makes_aux {a : Option Addr} {n c : Nat} {E : List (Int × Int)} (N : Int) (w : World) (hL : Sl (encF fE) 2 (Hp.whole w) a n c E) (r : Int × List (Int × Int) × Int)
    (k1 : ∀ {a : Option Addr} {n c : Nat} (w : World), E.length ≤ 24 → Sl (encF fE) 2 (Hp.whole w) a n c E → CallsE Try.prog 16 #[.int .i64 N, .slice a n c] w (RetG w r))
    (k2 : ∀ {a : Option Addr} {n c : Nat} (w : World), E.length ≤ 24 → Sl (encF fE) 2 (Hp.whole w) a n c E → CallsE Try.prog 18 #[.int .i64 N, .slice a n c] w (RetH w r))
    (hck : r.2.2 = 0 → checkF r.1 r.2.1 = 0) (hrl : E.length ≤ 24 → r.2.1.length < 10000) :
    CallsE Try.prog 3 #[.int .i64 N, .slice a n c] w (RetV w (.bool true)) := by
  have hlen := hL.len
  refine enter (X := cx 50) (cxg _) (args := [.int .i64 N, .slice a n c]) [.tmp 4] Try.func3 rfl rfl rfl rfl rfl ?_
  refine callV _ (fun w' _ => known_spec w') ?_
  refine callV _ (fun w' hm => few_spec N w' (hL.mono (encF_mono _) (hm 0 _ rfl))) ?_
  refine bsplit (fun h1 => ?_) (fun h1 => ?_)
  · refine callV _ (fun w' _ => known_spec w') ?_
    exact ⟨[], ⟨rfl, rfl⟩, fun w' h => h.pick [0] rfl rfl⟩
  have hl : E.length ≤ 24 := by
    unfold fewF at h1
    simp only [Bool.not_eq_false', Bool.and_eq_true, decide_eq_true_eq] at h1
    exact h1.1
  have hrl := hrl hl
  refine call (fun w' hm => cloneEdges_spec w' (hL.mono (encF_mono _) (hm 0 _ rfl)) (by omega)) ?_
  rintro _ _ ⟨o1, rfl, rfl, ho1⟩
  have hs1 := OwnO.sl (f := fE) (fun _ => rfl) (by decide) ho1
  refine call (fun w' hm => k1 w' hl (hs1.mono (encF_mono _) (hm 1 _ rfl))) ?_
  rintro _ _ ⟨o2, rfl, rfl, ho2⟩
  have hs2 := OwnO.sl (f := fE) (fun _ => rfl) (by decide) ho2
  intro b5
  refine call (fun w' hm => pairs_spec w' (hL.mono (encF_mono _) (hm 0 _ rfl)) (by omega)) ?_
  rintro _ _ ⟨o3, rfl, rfl, ho3⟩
  have hs3 := OwnO.sl (f := fE) (fun _ => rfl) (by decide) ho3
  refine call (fun w' hm => k2 w' hl (hs3.mono (encF_mono _) (hm 4 _ rfl))) ?_
  rintro _ _ ⟨o4, rfl, rfl, ho4⟩
  have hs4 := OwnO.sl (f := fE) (fun _ => rfl) (by decide) ho4
  intro b7
  have hl2 := ho2.len
  refine hideQ (fun _ h => h _ _ ?_)
  refine hideQ (fun q' hq' => ?_)
  refine normS [.hp (Hp.whole w), .hp o1.h, .hp o2.h, .box b5 [.int .i64 r.1, o2.v] 26, .hp o3.h, .hp o4.h, .box b7 [.int .i64 r.1, .slice o4.a o4.n o4.c] 35] rfl ?_
  refine dtrue rfl ?_
  refine callV _ (fun w' hm => same_spec r.1 r.1 w' (hs2.mono (encF_mono _) (hm 2 _ rfl)) (hs4.mono (encF_mono _) (hm 5 _ rfl)) (by omega)) ?_
  refine btrue (b := decide (r.1 = r.1) && decide (r.2.1 = r.2.1)) (by simp) ?_
  refine bsplitd (fun h2 => ?_) (fun h2 => ?_)
  · refine hq' _ _ ?_
    exact ⟨[], ⟨rfl, rfl⟩, fun w' h => h.pick [0] rfl rfl⟩
  · refine callV _ (fun w' hm => check_spec r.1 w' (hs2.mono (encF_mono _) (hm 2 _ rfl))) ?_
    refine hq' _ _ ?_
    exact ⟨[], ⟨by rw [decide_eq_true (hck (Decidable.not_not.1 h2))], rfl⟩, fun w' h => h.pick [0] rfl rfl⟩
theorem rmkR_len {N : Int} {E : List (Int × Int)} : (rmkR N E).2.1.length < 10000 := by
  unfold rmkR
  split
  · simp
  · rename_i hn
    have hn1 : ¬ (N < 0 ∨ N > 64) := fun h => hn (by rcases h with h | h; exact .inl h; exact .inr (.inl h))
    obtain ⟨M, rfl⟩ : ∃ M : Nat, N = M := ⟨N.toNat, by omega⟩
    have h1 : (mkF M E).length ≤ M * M := mkK_len E M M
    have h2 : M * M ≤ 64 * 64 := Nat.mul_le_mul (by omega) (by omega)
    dsimp only
    rw [Int.toNat_natCast]; omega
theorem makes_ok {a : Option Addr} {n c : Nat} {E : List (Int × Int)} (N : Int) (w : World) (hL : Sl (encF fE) 2 (Hp.whole w) a n c E) :
    CallsE Try.prog 3 #[.int .i64 N, .slice a n c] w (RetV w (.bool true)) :=
  makes_aux N w hL (rmkR N E)
    (fun w hl h => by have := make_spec N w h (by omega); rw [makeR_rmkR] at this; exact this)
    (fun w hl h => Make_spec N w h (by have := h.len; omega))
    (fun h => by rw [← makeR_rmkR] at *; exact make_check h) (fun _ => rmkR_len)
end Go.Proofs.Ytdjhgcpmipglfaa
