/- Contracts of schedule.Idle, Early. Their premises are their own. -/
import Derived.Test.YtnlkffccobdbjaaGreatYWr
import Derived.Test.YtnlkffccobdbjaaGreatYX4
namespace Go.Dw
open Go Go.RowKit
section
variable {X : Ctx} {s : List Ch}
/-- store of one cell of an element of many cells -/
theorem ostF {α : Type} {f : α → List Value} (hX : X.Good) {T e sz : Nat} (hf : ∀ x, (f x).length = sz) {i : Nat} {o : Os} (hi : sget s i = some (.hp o.h)) {b k fo : Nat} (hb : o.a = some ⟨b, 0, none⟩) {L : List α} (ho : OwnO f e sz o L) (hk : k < L.length) (hfo : fo < sz)
    {ti : TI} (hT : tget X.tt T = some ti) (h1 : ti.size = 1) (x : α) {v : Value} (hv : v.cells = #[v]) (hone : v.oneCell' = true) (hx : f x = (f L[k]).set fo v) {q : List Ch → Prop}
    (hq : ∀ o', o'.a = o.a → o'.n = o.n → o'.c = o.c → OwnO f e sz o' (L.set k x) → q (sset s i (.hp o'.h))) : NeedU X.P s (Instr.storeAt T (.pointer (some ⟨b, 0 + k * sz + fo, none⟩)) v) q := by
  obtain ⟨hl, ho⟩ := ho
  rw [hb] at ho
  have hle : k * sz + sz ≤ o.n * sz := by rw [← Nat.succ_mul]; exact Nat.mul_le_mul_right _ (by omega)
  rw [Nat.add_assoc]
  refine ost hX hi ho hT (by rw [hv, h1]; rfl) (by rw [hv]; simp [allOne, hone]) (by rw [h1]; omega) (by rw [h1]; rfl) fun h' ho' => hq ⟨o.a, o.n, o.c, h'⟩ rfl rfl rfl ⟨by simpa using hl, ?_⟩
  rw [hb]
  rw [h1, hv] at ho'
  have hls : L.set k L[k] = L := List.set_getElem_self hk
  have e0 := flat_set hf L k hk L[k]
  rw [hls] at e0
  have e1 := flat_set hf L k hk x
  have hlen : ∀ L : List α, (L.flatMap f).length = L.length * sz := fun L => by
    induction L with
    | nil => simp
    | cons x r ih => simp [List.flatMap_cons, hf, ih, Nat.succ_mul, Nat.add_comm]
  have hA : ((L.flatMap f).take (k * sz)).length = k * sz := by rw [List.length_take, hlen]; exact Nat.min_eq_left (Nat.mul_le_mul_right _ (by omega))
  obtain ⟨A, hAd⟩ : ∃ A, A = (L.flatMap f).take (k * sz) := ⟨_, rfl⟩
  obtain ⟨B, hBd⟩ : ∃ B, B = (L.flatMap f).drop (k * sz + sz) := ⟨_, rfl⟩
  rw [← hAd, ← hBd] at e0 e1
  rw [← hAd] at hA
  have key : (L.set k x).flatMap f = (L.flatMap f).take (k * sz + fo) ++ [v] ++ (L.flatMap f).drop (k * sz + fo + 1) := by
    rw [← e1, ← e0, hx, List.set_eq_take_append_cons_drop, if_pos (by rw [hf]; exact hfo)]
    rw [List.append_assoc A, List.append_assoc A, ← hA, List.take_length_add_append, Nat.add_assoc, List.drop_length_add_append, List.take_append_of_le_length (by rw [hf]; omega), List.drop_append_of_le_length (by rw [hf]; omega)]
    simp
  rw [key]
  exact ho'
end
end Go.Dw
namespace Go.Proofs.YtnlkffccobdbjaaGreat
open Go Go.RowKit Go.Dw
/-! ### Idle -/
def idS (TT : List Tk) (p : List Int × List Int) (j : Jb) : List Int × List Int :=
  (p.1.set j.2.1.toNat (max (p.1.getD j.2.1.toNat 0) (endF TT j)), p.2.set j.2.1.toNat (p.2.getD j.2.1.toNat 0 + duA TT j.1.toNat))
def idG (A B : List Int) (k : Nat) : List Int := (List.range A.length).map fun j => if j < k then A.getD j 0 - B.getD j 0 else A.getD j 0
def idP (TT : List Tk) (SS : List Sn) (L : List Jb) : List Int × List Int := L.foldl (idS TT) (List.replicate SS.length 0, List.replicate SS.length 0)
def idF (TT : List Tk) (SS : List Sn) (L : List Jb) : List Int := idG (idP TT SS L).1 (idP TT SS L).2 SS.length
def idR (TT : List Tk) (SS : List Sn) (L : List Jb) : List Int := if chkE TT SS L = 0 then idF TT SS L else []
structure IdI (SS : List Sn) (p : List Int × List Int) (m : Nat) : Prop where
  l1 : p.1.length = SS.length
  l2 : p.2.length = SS.length
  b1 : ∀ x ∈ p.1, 0 ≤ x ∧ x ≤ 1000000000000 + 1048576
  b2 : ∀ x ∈ p.2, 0 ≤ x ∧ x ≤ 1048576 * m
theorem IdI.step {TT : List Tk} {SS : List Sn} {p : List Int × List Int} {m : Nat} (h : IdI SS p m) (hF : Fit TT) {j : Jb} (hj : JOk TT.length j) (hs : j.2.1.toNat < SS.length) : IdI SS (idS TT p j) (m + 1) := by
  have he := end_le hF hj
  have hd := hF.d (i := j.1.toNat) (by have := hj.t; omega)
  have g1 : p.1.getD j.2.1.toNat 0 = p.1[j.2.1.toNat]'(by rw [h.l1]; exact hs) := gD _
  have g2 : p.2.getD j.2.1.toNat 0 = p.2[j.2.1.toNat]'(by rw [h.l2]; exact hs) := gD _
  refine ⟨by unfold idS; rw [List.length_set]; exact h.l1, by unfold idS; rw [List.length_set]; exact h.l2, fun x hx => ?_, fun x hx => ?_⟩
  · rcases List.mem_or_eq_of_mem_set hx with hx | rfl
    · exact h.b1 x hx
    · have := h.b1 _ (List.getElem_mem (show j.2.1.toNat < p.1.length by rw [h.l1]; exact hs))
      rw [g1]; omega
  · rcases List.mem_or_eq_of_mem_set hx with hx | rfl
    · have := h.b2 x hx; omega
    · have := h.b2 _ (List.getElem_mem (show j.2.1.toNat < p.2.length by rw [h.l2]; exact hs))
      rw [g2]; omega
section
variable {a a' : Option Addr} {n c n' c' : Nat} {TT : List Tk} {SS : List Sn}
theorem chk_stn {L : List Jb} (h : chkE TT SS L = 0) : ∀ j ∈ L, 0 ≤ j.2.1 ∧ j.2.1 < (SS.length : Int) := by
  obtain ⟨h1, h2⟩ := chk_zero h
  unfold schE at h2
  split at h2
  · cases h2
  rename_i h3
  split at h2
  · rename_i e he; exact absurd h2 (first_ne he)
  rename_i he
  intro j hj
  obtain ⟨v, hv, rfl⟩ := List.mem_iff_getElem.1 hj
  have := (jobE_ok (first_zero he v (by omega))).2.1
  rwa [show jbA L v = L[v] from gD hv] at this
set_option maxRecDepth 10000 in
theorem Idle_spec {al : Option Addr} {nl cl : Nat} {L : List Jb} (w : World) (hT : Sl encT 4 (Hp.whole w) a n c TT) (hS : Sl encN 2 (Hp.whole w) a' n' c' SS) (hs : Sml TT SS) (hL : Sl (encF fJ) 3 (Hp.whole w) al nl cl L) :
    CallsE Tryz.prog 42 #[sv a n c a' n' c', .slice al nl cl] w (RetI w (idR TT SS L) (chkE TT SS L)) := by
  have lT := hT.len
  have lS := hS.len
  have lL := hL.len
  obtain ⟨E, hE⟩ : ∃ E, E = chkE TT SS L := ⟨_, rfl⟩
  have hr : idR TT SS L = if E = 0 then idF TT SS L else [] := by unfold idR; rw [hE]
  have kC : ∀ w' : World, Sl encT 4 (Hp.whole w') a n c TT → Sl encN 2 (Hp.whole w') a' n' c' SS → Sl (encF fJ) 3 (Hp.whole w') al nl cl L → CallsE Tryz.prog 43 #[sv a n c a' n' c', .slice al nl cl] w' (RetV w' (.int .i64 E)) := fun w' h1 h2 h3 => by
    rw [hE]; exact Check_spec w' h1 h2 hs h3
  rw [hr, ← hE]
  refine enter (X := cx 77) (cxg _) (args := [.agg #[.slice a n c, .slice a' n' c'], .slice al nl cl]) [.tmp 4, .tmp 5] Tryz.func42 rfl rfl rfl rfl rfl ?_
  intro b2
  refine callV _ (fun w' hm => kC w' (hT.mono encT_mono (hm 0 _ rfl)) (hS.mono encN_mono (hm 0 _ rfl)) (hL.mono (encF_mono _) (hm 0 _ rfl))) ?_
  refine bsplitd (fun h1 => ?_) (fun h1 => ?_)
  · exact ⟨[.hp Hp.emp], ⟨Os.nil, rfl, rfl, by rw [if_neg h1]; exact OwnO.nil _ _ _⟩, fun w' h => Ok.emp (s := [.hp (Hp.whole w)]) (h.pick [0] rfl rfl)⟩
  have h0 : E = 0 := by omega
  have hch := hE.symm.trans h0
  obtain ⟨g1, g2, g3⟩ := chk_job hch
  have g4 := chk_stn hch
  have hF := fit_of hs g1
  have hFn := hF.n
  have hM := (shop_ok g1).2.1
  rw [if_pos h0]
  clear kC
  refine NeedD.cut (Dw.Os × Dw.Os) (fun g => [(1, .v (.slice al nl cl)), (2, .bx 1 0), (7, .v g.1.v), (8, .v g.2.v)]) (fun g => [.hp (Hp.whole w), .box b2 [.slice a n c, .slice a' n' c'] 25, .hp g.1.h, .hp g.2.h])
    (fun g => OwnO fI 3 1 g.1 (List.replicate SS.length 0) ∧ OwnO fI 3 1 g.2 (List.replicate SS.length 0)) (NeedD.by_order (cxg _) (.take 0 <| .take 1 <| .take 2 <| .take 4 <| .take 5 <| .take 6 <| .two 3 (.take 8 <| .run 7 <| .take 9 <| .done) 7 (.run 3 <| .take 8 <| .take 9 <| .done)) (by kernel_rfl) ?_) ?_
  · constructor
    · refine mkO (f := fI) (cxg _) (e := 3) rfl SS.length 0 rfl (by omega) (by omega) rfl (by omega) fun o21 ho21n ho21 => ?_
      refine ⟨(by repeat first | exact trivial | refine ⟨.inl rfl, ?_⟩ | refine ⟨.inr rfl, ?_⟩), ?_⟩
      refine mkO (f := fI) (cxg _) (e := 3) rfl SS.length 0 rfl (by omega) (by omega) rfl (by omega) fun o25 ho25n ho25 => ?_
      refine ⟨(by repeat first | exact trivial | refine ⟨.inl rfl, ?_⟩ | refine ⟨.inr rfl, ?_⟩), ?_⟩
      exact ⟨(o21, o25), ⟨ho21, ho25⟩, Ent.mk (fun _ _ h => h.pick [0, 1, 2, 3] rfl rfl) rfl rfl⟩
    · refine mkO (f := fI) (cxg _) (e := 3) rfl SS.length 0 rfl (by omega) (by omega) rfl (by omega) fun o25 ho25n ho25 => ?_
      refine ⟨(by repeat first | exact trivial | refine ⟨.inl rfl, ?_⟩ | refine ⟨.inr rfl, ?_⟩), ?_⟩
      refine mkO (f := fI) (cxg _) (e := 3) rfl SS.length 0 rfl (by omega) (by omega) rfl (by omega) fun o21 ho21n ho21 => ?_
      refine ⟨(by repeat first | exact trivial | refine ⟨.inl rfl, ?_⟩ | refine ⟨.inr rfl, ?_⟩), ?_⟩
      exact ⟨(o21, o25), ⟨ho21, ho25⟩, Ent.mk (fun _ _ h => h.pick [0, 1, 3, 2] rfl rfl) rfl rfl⟩
  rintro ⟨oA, oB⟩ ⟨hoA, hoB⟩ _
  dsimp only at hoA hoB ⊢
  obtain ⟨P, hP⟩ : ∃ P : Nat → List Int × List Int, P = fun m => (L.take m).foldl (idS TT) (List.replicate SS.length 0, List.replicate SS.length 0) := ⟨_, rfl⟩
  have hP0 : P 0 = (List.replicate SS.length 0, List.replicate SS.length 0) := by rw [hP]; rfl
  have hPe : P nl = idP TT SS L := by rw [hP]; dsimp only; rw [List.take_of_length_le (by omega)]; rfl
  have hPs : ∀ m (hm : m < L.length), P (m + 1) = idS TT (P m) L[m] := fun m hm => by
    rw [hP]; dsimp only; rw [List.take_succ_eq_append_getElem hm, List.foldl_append]; rfl
  refine NeedL.mk (Nat × Hp × Hp) (fun g => [(2, .bx 1 0), (7, .v oA.v), (8, .v oB.v), (26, .v (.slice al nl cl)), (27, .v (.int .i64 nl)), (28, .v (.int .i64 g.1))]) (fun g => [.hp (Hp.whole w), .box b2 [.slice a n c, .slice a' n' c'] 25, .hp g.2.1, .hp g.2.2])
    (fun g => g.1 ≤ nl ∧ IdI SS (P g.1) g.1 ∧ OwnO fI 3 1 ⟨oA.a, oA.n, oA.c, g.2.1⟩ (P g.1).1 ∧ OwnO fI 3 1 ⟨oB.a, oB.n, oB.c, g.2.2⟩ (P g.1).2) (fun g => nl - g.1) (0, oA.h, oB.h) ⟨Nat.zero_le _, ?_, by dsimp only; rw [hP0]; exact hoA, by dsimp only; rw [hP0]; exact hoB⟩ (Ent.mk (fun _ _ h => h) rfl rfl) ?_
  · dsimp only; rw [hP0]
    exact ⟨List.length_replicate, List.length_replicate, fun x hx => by rw [List.eq_of_mem_replicate hx]; decide, fun x hx => by rw [List.eq_of_mem_replicate hx]; simp⟩
  clear hoA hoB
  rintro ⟨m, hA, hB⟩ ⟨hm, hI, hoA, hoB⟩
  dsimp only at *
  have lA := hoA.len
  have lB := hoB.len
  dsimp only at lA lB
  have sA := OwnO.sl (f := fI) (fun _ => rfl) (by decide) hoA
  have sB := OwnO.sl (f := fI) (fun _ => rfl) (by decide) hoB
  have i1 := hI.l1
  have i2 := hI.l2
  refine bsplitd (fun h2 => ?_) (fun h2 => ?_)
  · have hmL : m < L.length := by omega
    obtain ⟨⟨j1, j2, j3⟩, hj⟩ : ∃ j, j = L[m] := ⟨_, rfl⟩
    have hmem : (j1, j2, j3) ∈ L := by rw [hj]; exact List.getElem_mem hmL
    have ojk := g3 _ hmem
    have hst := g4 _ hmem
    have hjt := ojk.t
    dsimp only at hst hjt
    have hkS : j2.toNat < SS.length := by omega
    have hnext := hPs m hmL
    rw [← hj] at hnext
    have hI2 := hI.step hF ojk hkS
    rw [← hnext] at hI2
    obtain ⟨p, hp⟩ : ∃ p, p = P m := ⟨_, rfl⟩
    rw [← hp] at hI hoA hoB lA lB sA sB i1 i2 hnext
    obtain ⟨pa, pb⟩ := p
    dsimp only at hoA hoB lA lB sA sB i1 i2
    have ka : j2.toNat < pa.length := by omega
    have kb : j2.toNat < pb.length := by omega
    have hjT : j1.toNat < TT.length := by omega
    obtain ⟨t, ht⟩ : ∃ t, t = TT[j1.toNat] := ⟨_, rfl⟩
    have htd := hF.du t (by rw [ht]; exact List.getElem_mem hjT)
    have hda : duA TT j1.toNat = t.du := by unfold duA; rw [tk_get hjT, ← ht]
    obtain ⟨x, hx⟩ : ∃ x, x = pa[j2.toNat] := ⟨_, rfl⟩
    obtain ⟨y, hy⟩ : ∃ y, y = pb[j2.toNat] := ⟨_, rfl⟩
    have hyb := hI.b2 y (by rw [hy]; exact List.getElem_mem kb)
    have hn1 : (P (m + 1)).1 = pa.set j2.toNat (max x (endF TT (j1, j2, j3))) := by rw [hnext]; unfold idS; dsimp only; rw [gD ka, ← hx]
    have hn2 : (P (m + 1)).2 = pb.set j2.toNat (y + t.du) := by rw [hnext]; unfold idS; dsimp only; rw [gD kb, ← hy, hda]
    refine idx (cxg _) (e := 52) rfl hL m rfl hmL (fun b9 o9 cs hcs hR hcell3 => ?_)
    rw [← hj] at hR
    subst hR
    refine ldn (cxg _) (i := 0) rfl hcell3 rfl ?_
    intro b10
    refine NeedD.by_order (cxg _) (.take 0 <| .take 1 <| .take 2 <| .take 3 <| .take 4 <| .take 5 <| .take 6 <| .take 7 <| .take 8 <| .take 9 <| .run 10 <| .run 11 <| .take 12 <| .run 13 <| .done) (by kernel_rfl) ?_
    refine idx (cxg _) (e := 3) rfl sA j2.toNat (by show j2 = _; omega) ka (fun b9 o9 cs hcs hR hcell4 => ?_)
    rw [← hx] at hR
    subst hR
    refine ld1 (cxg _) (i := 2) rfl (hcell4 0 _ rfl) rfl ?_
    refine callV _ (fun w' hm => end_spec j1 j2 j3 w' (hT.mono encT_mono (hm 0 _ rfl)) hF ojk) ?_
    refine ⟨(by repeat first | exact trivial | refine ⟨.inl rfl, ?_⟩ | refine ⟨.inr rfl, ?_⟩), ?_⟩
    refine qMax ?_
    refine ⟨(by repeat first | exact trivial | refine ⟨.inl rfl, ?_⟩ | refine ⟨.inr rfl, ?_⟩), ?_⟩
    refine oidx1 (cxg _) (e := 3) rfl rfl (o := ⟨oA.a, oA.n, oA.c, hA⟩) hoA j2.toNat (by show j2 = _; omega) ka fun b7 hb7 => ?_
    refine osto (g := fun x : Int => .int .i64 x) (fun _ => rfl) (cxg _) (i := 2) (o := ⟨oA.a, oA.n, oA.c, hA⟩) rfl hb7 hoA ka rfl rfl (max x (endF TT (j1, j2, j3))) rfl rfl rfl fun o2 f1 f2 f3 ho2 => ?_
    refine NeedD.by_order (cxg _) (.take 0 <| .take 1 <| .take 2 <| .take 3 <| .take 4 <| .take 5 <| .take 6 <| .take 7 <| .take 8 <| .take 9 <| .take 10 <| .take 11 <| .take 12 <| .take 13 <| .run 14 <| .done) (by kernel_rfl) ?_
    refine idx (cxg _) (e := 3) rfl sB j2.toNat (by show j2 = _; omega) kb (fun b9 o9 cs hcs hR hcell6 => ?_)
    rw [← hy] at hR
    subst hR
    refine ld1 (cxg _) (i := 3) rfl (hcell6 0 _ rfl) rfl ?_
    refine idx (cxg _) (e := 64) rfl hT j1.toNat (by show j1 = _; omega) hjT (fun b9 o9 cs hcs hR hcell7 => ?_)
    rw [← ht] at hR
    obtain ⟨a3, n3, c3, rfl, hs3⟩ := hR
    refine ld1 (cxg _) (i := 0) rfl (hcell7 1 _ rfl) rfl ?_
    refine nw (by omega) (by omega) ?_
    refine oidx1 (cxg _) (e := 3) rfl rfl (o := ⟨oB.a, oB.n, oB.c, hB⟩) hoB j2.toNat (by show j2 = _; omega) kb fun b6 hb6 => ?_
    refine osto (g := fun x : Int => .int .i64 x) (fun _ => rfl) (cxg _) (i := 3) (o := ⟨oB.a, oB.n, oB.c, hB⟩) rfl hb6 hoB kb rfl rfl (y + t.du) rfl rfl rfl fun o3 f4 f5 f6 ho3 => ?_
    refine nw (by omega) (by omega) ?_
    obtain ⟨xa, xn, xc, h3⟩ := o2
    obtain ⟨ya, yn, yc, h4⟩ := o3
    simp only at f1 f2 f3 f4 f5 f6
    subst f1 f2 f3 f4 f5 f6
    exact ⟨(m + 1, h3, h4), ⟨by dsimp only; omega, hI2, by dsimp only; rw [hn1]; exact ho2, by dsimp only; rw [hn2]; exact ho3⟩, by dsimp only; omega, Ent.mk (fun _ _ h => h.pick [0, 1, 2, 3] rfl rfl) rfl rfl⟩
  · have hmn : m = nl := by omega
    subst hmn
    have hF2 : idF TT SS L = idG (P m).1 (P m).2 SS.length := by rw [hPe]; rfl
    obtain ⟨p, hp⟩ : ∃ p, p = P m := ⟨_, rfl⟩
    rw [← hp] at hI hoA hoB lA lB sA sB i1 i2 hF2
    obtain ⟨pa, pb⟩ := p
    dsimp only at hoA hoB lA lB sA sB i1 i2 hF2
    clear hPe hPs hP0 hP hp
    have gl : ∀ k, (idG pa pb k).length = SS.length := fun k => by simp [idG, i1]
    refine NeedL.mk (Nat × Hp) (fun g => [(7, .v oA.v), (8, .v oB.v), (61, .v (.int .i64 oA.n)), (62, .v (.int .i64 g.1))]) (fun g => [.hp (Hp.whole w), .box b2 [.slice a n c, .slice a' n' c'] 25, .hp g.2, .hp hB])
      (fun g => g.1 ≤ oA.n ∧ OwnO fI 3 1 ⟨oA.a, oA.n, oA.c, g.2⟩ (idG pa pb g.1)) (fun g => oA.n - g.1) (0, hA) ⟨Nat.zero_le _, ?_⟩ (Ent.mk (fun _ _ h => h) rfl rfl) ?_
    · have e0 : idG pa pb 0 = pa := by
        apply List.ext_getElem
        · simp [idG]
        · intro j h1 h2; simp [idG, List.getElem?_eq_getElem h2]
      dsimp only; rw [e0]; exact hoA
    clear hoA sA
    rintro ⟨k, hA⟩ ⟨hk, hoA⟩
    dsimp only at *
    have sA := OwnO.sl (f := fI) (fun _ => rfl) (by decide) hoA
    refine bsplitd (fun h9 => ?_) (fun h9 => ?_)
    · have hkS : k < SS.length := by omega
      have ka : k < pa.length := by omega
      have kb : k < pb.length := by omega
      have kg : k < (idG pa pb k).length := by rw [gl]; exact hkS
      obtain ⟨x, hx⟩ : ∃ x, x = pa[k] := ⟨_, rfl⟩
      obtain ⟨y, hy⟩ : ∃ y, y = pb[k] := ⟨_, rfl⟩
      have hxb := hI.b1 x (by rw [hx]; exact List.getElem_mem ka)
      have hyb := hI.b2 y (by rw [hy]; exact List.getElem_mem kb)
      have hgx : (idG pa pb k)[k] = x := by simp only [idG, List.getElem_map, List.getElem_range]; rw [if_neg (by omega), gD ka, hx]
      have est : (idG pa pb k).set k (x - y) = idG pa pb (k + 1) := by
        apply List.ext_getElem
        · simp [idG]
        · intro j q1 q2
          rw [List.getElem_set]
          simp only [idG, List.getElem_map, List.getElem_range]
          by_cases hj : k = j
          · rw [if_pos hj, if_pos (by omega), ← hj, gD ka, gD kb, hx, hy]
          · rw [if_neg hj]
            by_cases hj2 : j < k
            · rw [if_pos hj2, if_pos (by omega)]
            · rw [if_neg hj2, if_neg (by omega)]
      refine NeedD.by_order (cxg _) (.take 0 <| .take 1 <| .take 2 <| .take 3 <| .take 4 <| .take 5 <| .take 6 <| .take 7 <| .take 8 <| .take 9 <| .run 10 <| .done) (by kernel_rfl) ?_
      refine idx (cxg _) (e := 3) rfl sA k rfl kg (fun b9 o9 cs hcs hR hcell10 => ?_)
      rw [hgx] at hR
      subst hR
      refine ld1 (cxg _) (i := 2) rfl (hcell10 0 _ rfl) rfl ?_
      refine idx (cxg _) (e := 3) rfl sB k rfl kb (fun b9 o9 cs hcs hR hcell11 => ?_)
      rw [← hy] at hR
      subst hR
      refine ld1 (cxg _) (i := 3) rfl (hcell11 0 _ rfl) rfl ?_
      refine nw (by omega) (by omega) ?_
      refine oidx1 (cxg _) (e := 3) rfl rfl (o := ⟨oA.a, oA.n, oA.c, hA⟩) hoA k rfl kg fun b7 hb7 => ?_
      refine osto (g := fun x : Int => .int .i64 x) (fun _ => rfl) (cxg _) (i := 2) (o := ⟨oA.a, oA.n, oA.c, hA⟩) rfl hb7 hoA kg rfl rfl (x - y) rfl rfl rfl fun o2 f1 f2 f3 ho2 => ?_
      refine nw (by omega) (by omega) ?_
      obtain ⟨xa, xn, xc, h3⟩ := o2
      simp only at f1 f2 f3
      subst f1 f2 f3
      rw [est] at ho2
      exact ⟨(k + 1, h3), ⟨by dsimp only; omega, ho2⟩, by dsimp only; omega, Ent.mk (fun _ _ h => h) rfl rfl⟩
    · have hks : k = SS.length := by omega
      subst hks
      rw [← hF2] at hoA
      exact ⟨[.hp hA], ⟨⟨oA.a, oA.n, oA.c, hA⟩, by rw [h0]; rfl, rfl, hoA⟩, fun w' h => h.pick [0, 2] rfl rfl⟩
end
end Go.Proofs.YtnlkffccobdbjaaGreat
