/- The plain law of the reversed graph: its classes and parts are the same. No condition of its own. -/
import Derived.Test.YtdjhgcpmipglfaaYP5
import Derived.Test.YtdjhgcpmipglfaaYGp
import Derived.Test.YtdjhgcpmipglfaaYLc
namespace Go.Proofs.Ytdjhgcpmipglfaa
open Go Go.RowKit Go.Dw
theorem rev_check {N : Nat} {E : List (Int × Int)} (hG : Gr N E) (hE : Srt E) : checkF N (revF E) = 0 := by
  have h := rev_eq hG hE
  have k := makeR_rmkR (N : Int) (E.map flip)
  rw [h] at k
  have := make_check (N := (N : Int)) (E := E.map flip) (by rw [k])
  rw [k] at this
  exact this
theorem rchFlip {N : Nat} {E : List (Int × Int)} (a b : Int) : rch N (revF E) a b = rch N E b a := by unfold rch; rw [dst_flip]
theorem eqv_rev {N : Nat} {E : List (Int × Int)} : eqv N (revF E) = eqv N E := by
  funext a b
  unfold eqv
  rw [rchFlip, rchFlip, Bool.and_comm]
theorem comp_rev {N : Nat} {E : List (Int × Int)} : compF N (revF E) = compF N E := by
  have h1 : isLeast N (revF E) = isLeast N E := by funext k; unfold isLeast; rw [eqv_rev]
  have h2 : cls N (revF E) = cls N E := by funext k; unfold cls; rw [eqv_rev]
  unfold compF reps
  rw [h1, h2]
theorem both_mem {N : Nat} {E : List (Int × Int)} {e : Int × Int} : e ∈ bothE N E ↔ e ∈ E ∨ flip e ∈ E := by
  unfold bothE
  rw [dd_mem, sortF_mem, List.mem_append, revF_mem]
theorem both_rev {N : Nat} {E : List (Int × Int)} : bothE N (revF E) = bothE N E := by
  refine Srt.ext (srt_make _) (srt_make _) fun x => ?_
  have h1 := both_mem (N := N) (E := revF E) (e := x)
  have h2 := both_mem (N := N) (E := E) (e := x)
  rw [h1, h2, revF_mem, revF_mem]
  have : flip (flip x) = x := rfl
  rw [this]
  exact Or.comm
theorem rea_one {N : Nat} {E : List (Int × Int)} {v u : Nat} (hu : u < N) : decide ((u : Int) ∈ reaK N E [(v : Int)] N) = rch N E v u := by
  have : ((u : Int) ∈ reaK N E [(v : Int)] N) ↔ rch N E v u = true := by
    unfold reaK
    rw [mem_cast]
    have hi : ∀ w : Nat, isR N E [(v : Int)] w = rch N E v w := fun w => by
      unfold isR rch
      rw [isSome_dz]; simp
    constructor
    · rintro ⟨w, h1, h2, h3⟩
      have : w = u := by omega
      subst this
      rw [← hi]; exact h2
    · intro h; exact ⟨u, hu, by rw [hi]; exact h, rfl⟩
  rw [Bool.eq_iff_iff, decide_eq_true_eq]
  exact this
theorem mirror_row {N : Nat} {E : List (Int × Int)} {v u : Nat} (hv : v < N) (hu : u < N) : decide ((u : Int) ∈ reaK N E [(v : Int)] N) = decide ((v : Int) ∈ reaK N (revF E) [(u : Int)] N) := by
  rw [rea_one hu, rea_one hv, rchFlip]
end Go.Proofs.Ytdjhgcpmipglfaa
