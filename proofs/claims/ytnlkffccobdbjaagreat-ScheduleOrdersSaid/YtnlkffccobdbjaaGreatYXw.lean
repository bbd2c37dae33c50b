/- Contracts of slices.Values, AppendSeq, Collect, Sorted for ints. Their premises are their own. -/
import Derived.Test.YtnlkffccobdbjaaGreatXN
import Derived.Test.YtnlkffccobdbjaaGreatXJ
namespace Go.Proofs.YtnlkffccobdbjaaGreat
open Go Go.RowKit Go.Dw
def RdV (b : Nat) (a : Option Addr) (n c : Nat) (L : List Int) (h : Hp) : Prop := h.cell? ⟨b, 0, none⟩ = some (.slice a n c) ∧ Sl (encF fI) 1 h a n c L
theorem RdV.mono {b : Nat} {a : Option Addr} {n c : Nat} {L : List Int} {h k : Hp} (r : RdV b a n c L h) (l : h.le k) : RdV b a n c L k := ⟨l.cell r.1, r.2.mono (encF_mono _) l⟩
theorem values1_spec {b : Nat} {a : Option Addr} {n c : Nat} {L : List Int} (hn : n < 1000000) : IterC Tryz.prog 82 [.pointer (some ⟨b, 0, none⟩)] fI L (RdV b a n c L) := by
  intro w h l J Jx hin hRd hJ0 hY
  obtain ⟨r1, r2⟩ := hRd
  have hl := r2.len
  obtain ⟨c0, hc0⟩ : ∃ c0, c0 = (Hp.whole w).minus h := ⟨_, rfl⟩
  refine enterYM (X := cx 16) (cxg _) (args := [.func (.yield l) #[] #[], .pointer (some ⟨b, 0, none⟩)]) hin [] Tryz.func82 rfl rfl rfl rfl rfl ?_
  rw [← hc0] at r1 r2 hY ⊢
  refine ld1 (cxg _) (i := 0) rfl r1 rfl ?_
  refine NeedL.mk (Nat × Hp) (fun g => [(0, .v (.func (.yield l) #[] #[])), (5, .v (.slice a n c)), (6, .v (.int .i64 n)), (7, .v (.int .i64 g.1))]) (fun g => [.hp c0, .hp g.2]) (fun g => g.1 ≤ n ∧ J (L.take g.1) g.2) (fun g => n - g.1) (0, h) ⟨Nat.zero_le _, hJ0⟩ (Ent.mk (fun _ _ h => h) rfl rfl) ?_
  rintro ⟨k, h1⟩ ⟨hk, hJ⟩
  dsimp only at *
  refine bsplitd (fun hlt => ?_) (fun hge => ?_)
  · have hkL : k < L.length := by omega
    refine idx (cxg _) (e := 3) rfl r2 k rfl hkL (fun b o cs hcs hR hcell => ?_)
    subst hR
    refine ld1 (cxg _) (i := 0) rfl (hcell 0 _ rfl) rfl ?_
    have hpost : L = L.take k ++ L[k] :: L.drop (k + 1) := by rw [← List.drop_eq_getElem_cons hkL, List.take_append_drop]
    have hst : L.take (k + 1) = L.take k ++ [L[k]] := List.take_succ_eq_append_getElem hkL
    refine yieldQ (c := c0) (h1 := h1) rfl rfl (R := fun v h2 => (v = .bool true ∧ J (L.take k ++ [L[k]]) h2) ∨ (v = .bool false ∧ Jx (L.take k ++ [L[k]]) h2)) (fun w1 hi1 hc1 hd1 => hY w1 h1 (L.take k) L[k] (L.drop (k + 1)) hpost hJ hi1 hc1 hd1) ?_
    rintro v h2 (⟨rfl, hJ2⟩ | ⟨rfl, hJ2⟩)
    · refine nw (by omega) (by omega) ?_
      exact ⟨(k + 1, h2), ⟨by dsimp only; omega, by dsimp only; rw [hst]; exact hJ2⟩, by dsimp only; omega, Ent.mk (fun _ _ h => h) rfl rfl⟩
    · exact ⟨h2, [], ⟨rfl, .inr ⟨L.take k ++ [L[k]], by rw [← hst]; exact List.take_prefix _ _, hJ2⟩⟩, fun w' h => h⟩
  · rw [List.take_of_length_le (by omega)] at hJ
    exact ⟨h1, [], ⟨rfl, .inl hJ⟩, fun w' h => h⟩
section
variable {a : Option Addr} {n c : Nat} {L : List Int}
theorem values_spec (w : World) :
    CallsE Tryz.prog 37 #[.slice a n c] w (Ret w fun v cs => ∃ b : Nat, v = .func (.func 82) ⟨[]⟩ ⟨[.pointer (some ⟨b, 0, none⟩)]⟩ ∧ cs = [.box b [.slice a n c] 28]) := by
  refine enter (X := cx 4) (cxg _) (args := [.slice a n c]) [.tmp 2] Tryz.func37 rfl rfl rfl rfl rfl ?_
  intro b1
  exact ⟨[.box b1 [.slice a n c] 28], ⟨b1, rfl, rfl⟩, fun w' h => h⟩
set_option maxRecDepth 10000 in
theorem appendSeq_spec {b : Nat} (w : World) (hR : RdV b a n c L (Hp.whole w)) (hn : n < 1000000) :
    CallsE Tryz.prog 118 #[.slice none 0 0, .func (.func 82) ⟨[]⟩ ⟨[.pointer (some ⟨b, 0, none⟩)]⟩] w (Ret w fun v cs => ∃ o : Dw.Os, v = o.v ∧ cs = [.hp o.h] ∧ OwnO fI 3 1 o L) := by
  have hl := hR.2.len
  refine enterY (X := cx 13) (cxg _) (args := [.slice none 0 0, .func (.func 82) ⟨[]⟩ ⟨[.pointer (some ⟨b, 0, none⟩)]⟩]) [.tmp 4] Tryz.func118 rfl rfl rfl rfl rfl ?_
  intro b2
  refine rangeF (cxg _) (ps := [7]) rfl (values1_spec hn) (fun _ => rfl) (by decide) (fun _ _ h l => h.mono l)
    (Hp.whole w) [(2, .bx 2 0)] Dw.Os (fun g => [.box b2 [g.v] 28, .hp g.h])
    (fun g pre => OwnO fI 3 1 g pre) (fun _ _ _ => False) (fun _ => True)
    hR trivial (fun _ _ _ _ => trivial) Os.nil (OwnO.nil _ _ _)
    (fun w0 w h => h.emp) rfl rfl (fun _ => rfl) ?_ ?_ (fun _ _ _ _ _ h => h.elim)
  · intro g pre x post c1 hl hx hR _
    have hlen : L.length = pre.length + (post.length + 1) := by rw [hx]; simp
    refine ⟨[(2, .bx 2 0), (5, .v (.int .i64 x))], [.box b2 [g.v] 28, .hp g.h], Ent.mk (fun _ _ h => h) rfl rfl, fun hl' => ?_⟩
    intro b19
    refine appO (f := fI) (cxg _) (e := 3) rfl (i := 3) rfl hR (j := 4) x rfl rfl rfl rfl (by omega) (fun o' ho' => ?_)
    exact ⟨o', ho', fun _ _ h => h.pick [0, 1, 2, 3] rfl rfl⟩
  · intro g D hR
    exact ⟨1, rfl, [.hp g.h], ⟨g, rfl, rfl, hR⟩, fun w' h => h.pick [0, 3] rfl rfl⟩
theorem collect_spec {b : Nat} (w : World) (hR : RdV b a n c L (Hp.whole w)) (hn : n < 1000000) :
    CallsE Tryz.prog 81 #[.func (.func 82) ⟨[]⟩ ⟨[.pointer (some ⟨b, 0, none⟩)]⟩] w (Ret w fun v cs => ∃ o : Dw.Os, v = o.v ∧ cs = [.hp o.h] ∧ OwnO fI 3 1 o L) := by
  refine enter (X := cx 5) (cxg _) (args := [.func (.func 82) ⟨[]⟩ ⟨[.pointer (some ⟨b, 0, none⟩)]⟩]) [.tmp 2] Tryz.func81 rfl rfl rfl rfl rfl ?_
  refine call (fun w' hm => appendSeq_spec w' (hR.mono (hm 0 _ rfl).whole) hn) ?_
  rintro _ _ ⟨o, rfl, rfl, ho⟩
  exact ⟨[.hp o.h], ⟨o, rfl, rfl, ho⟩, fun w' h => h⟩
theorem sorted_spec {b : Nat} (w : World) (hR : RdV b a n c L (Hp.whole w)) (hl : L.length ≤ 12) :
    CallsE Tryz.prog 36 #[.func (.func 82) ⟨[]⟩ ⟨[.pointer (some ⟨b, 0, none⟩)]⟩] w (Ret w fun v cs => ∃ o : Dw.Os, v = o.v ∧ cs = [.hp o.h] ∧ OwnO fI 3 1 o (srtI (fun a b : Int => decide (a < b)) L)) := by
  have hn := hR.2.len
  refine enter (X := cx 9) (cxg _) (args := [.func (.func 82) ⟨[]⟩ ⟨[.pointer (some ⟨b, 0, none⟩)]⟩]) [.tmp 2] Tryz.func36 rfl rfl rfl rfl rfl ?_
  refine call (fun w' hm => collect_spec w' (hR.mono (hm 0 _ rfl).whole) (by omega)) ?_
  rintro _ _ ⟨o, rfl, rfl, ho⟩
  refine callM (i := 1) rfl (fun w' hm => sort_spec12 w' (hm 1 _ rfl) ho hl) ?_
  rintro _ h2 _ ⟨rfl, rfl, ho2⟩
  exact ⟨[.hp h2], ⟨⟨o.a, o.n, o.c, h2⟩, rfl, rfl, ho2⟩, fun w' h => h⟩
end
end Go.Proofs.YtnlkffccobdbjaaGreat
