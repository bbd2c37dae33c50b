/- Contracts of the model of layer 50: list$1, list$1$1. Their premises are their own. -/
import Derived.Test.YtnlkffccobdbjaaGreatYXf
namespace Go.Proofs.YtnlkffccobdbjaaGreat
open Go Go.RowKit Go.Dw
section
variable {a a' : Option Addr} {n c n' c' : Nat} {TT : List Tk}
theorem list50a_spec {bd : Nat} {ad : Option Addr} {nd cd : Nat} {D : List Bool} {x : Int} (w : World) (hd : Bx (Hp.whole w) bd [.slice ad nd cd]) (hD : Sl (encF fB) 1 (Hp.whole w) ad nd cd D) (h0 : 0 ≤ x) (hx : x.toNat < D.length) :
    CallsE Tryz.prog 78 #[.int .i64 x, .pointer (some ⟨bd, 0, none⟩)] w (RetV w (.bool (!(D.getD x.toNat false)))) := by
  rw [gD hx]
  refine enter (X := cx 9) (cxg _) (args := [.int .i64 x, .pointer (some ⟨bd, 0, none⟩)]) [.tmp 3] Tryz.func78 rfl rfl rfl rfl rfl ?_
  refine ld1 (cxg _) (i := 0) rfl (hd 0 _ rfl) rfl ?_
  refine idx (cxg _) (e := 4) rfl hD x.toNat (by omega) hx (fun b o cs hcs hR hcell => ?_)
  subst hR
  refine ld1 (cxg _) (i := 0) rfl (hcell 0 _ rfl) rfl ?_
  exact ⟨[], ⟨rfl, rfl⟩, fun w' h => h⟩
set_option maxRecDepth 10000 in
theorem list50b_spec {bd bs : Nat} {ad : Option Addr} {nd cd : Nat} {D : List Bool} (i : Nat) (w : World) (hd : Bx (Hp.whole w) bd [.slice ad nd cd]) (hs : Bx (Hp.whole w) bs [.slice a n c, .slice a' n' c']) (hD : Sl (encF fB) 1 (Hp.whole w) ad nd cd D)
    (hT : Sl encT 4 (Hp.whole w) a n c TT) (hF : Fit TT) (hi : i < TT.length) (hl : D.length = TT.length) :
    CallsE Tryz.prog 77 #[.int .i64 i, .pointer (some ⟨bd, 0, none⟩), .pointer (some ⟨bs, 0, none⟩)] w (RetV w (.bool (opnF TT D i))) := by
  have hiD : i < D.length := by omega
  obtain ⟨t, ht⟩ : ∃ t, t = TT[i] := ⟨_, rfl⟩
  have htm : t ∈ TT := by rw [ht]; exact List.getElem_mem hi
  have hal := hF.al t htm
  have har := hF.ar t htm
  obtain ⟨x, hx⟩ : ∃ x, x = D[i] := ⟨_, rfl⟩
  have ho : opnF TT D i = (!x && !(t.af.any fun k => !(D.getD k.toNat false))) := by unfold opnF; rw [gD hiD, tk_get hi, ← ht, ← hx]
  refine enter (X := cx 21) (cxg _) (args := [.int .i64 i, .pointer (some ⟨bd, 0, none⟩), .pointer (some ⟨bs, 0, none⟩)]) [.tmp 4] Tryz.func77 rfl rfl rfl rfl rfl ?_
  refine ld1 (cxg _) (i := 0) rfl (hd 0 _ rfl) rfl ?_
  refine idx (cxg _) (e := 4) rfl hD i rfl hiD (fun b o cs hcs hR hcell => ?_)
  rw [← hx] at hR
  subst hR
  refine ld1 (cxg _) (i := 0) rfl (hcell 0 _ rfl) rfl ?_
  refine bsplit (fun h2 => ?_) (fun h2 => ?_)
  · refine ld1 (cxg _) (i := 0) rfl (hs 0 _ rfl) rfl ?_
    refine idx (cxg _) (e := 64) rfl hT i rfl hi (fun b9 o9 cs hcs hR hcell3 => ?_)
    rw [← ht] at hR
    obtain ⟨a3, n3, c3, rfl, hs3⟩ := hR
    have l3 := hs3.len
    refine ld1 (cxg _) (i := 0) rfl (hcell3 3 _ rfl) rfl ?_
    refine callV _ (fun w' hm => containsFuncInts_spec 78 (.pointer (some ⟨bd, 0, none⟩)) (fun k => !(D.getD k.toNat false)) w' (hs3.mono (encF_mono _) (hm 0 _ rfl)) (by omega) (fun w2 h2 y hy => by
      have := har y hy
      exact list50a_spec w2 (hd.mono ((hm 0 _ rfl).whole.trans h2)) (hD.mono (encF_mono _) ((hm 0 _ rfl).whole.trans h2)) this.1 (by omega))) ?_
    exact ⟨[], ⟨by rw [ho, h2, Bool.true_and], rfl⟩, fun w' h => h⟩
  · exact ⟨[], ⟨by rw [ho, h2]; rfl, rfl⟩, fun w' h => h⟩
end
end Go.Proofs.YtnlkffccobdbjaaGreat
