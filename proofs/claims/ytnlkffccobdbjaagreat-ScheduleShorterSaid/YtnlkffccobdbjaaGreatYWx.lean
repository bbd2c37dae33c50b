/- Contracts of schedule.increasing, proves, Verify. Their premises are their own. -/
import Derived.Test.YtnlkffccobdbjaaGreatYWw
namespace Go.Dw
open Go Go.RowKit
/- a branch on a value that is known: the kernel need not look for it -/
theorem condF {X : Ctx} {x y : Code} {Q : Ex → Tm → List Ch → Prop} {t : Tm} {s : List Ch} {c : Operand} (h : opv t c = some (.v (.bool false))) (hq : WP X y Q t s) : WP X (.cond c x y) Q t s := by
  unfold WP tvk; rw [h]; exact hq
theorem condT {X : Ctx} {x y : Code} {Q : Ex → Tm → List Ch → Prop} {t : Tm} {s : List Ch} {c : Operand} (h : opv t c = some (.v (.bool true))) (hq : WP X x Q t s) : WP X (.cond c x y) Q t s := by
  unfold WP tvk; rw [h]; exact hq
end Go.Dw
namespace Go.Proofs.YtnlkffccobdbjaaGreat
open Go Go.RowKit Go.Dw
def incP (l : List Int) (i : Nat) : Bool := decide (0 < i) && decide (l.getD i 0 ≤ l.getD (i - 1) 0)
def incF (l : List Int) : Bool := !((List.range l.length).any (incP l))
def byF (l : List Int) (n : Int) : Bool := l.any fun k => decide (k < 0) || decide (k ≥ n)
def chnP (TT : List Tk) (l : List Int) (i : Nat) : Bool := decide (0 < i) && !decide (l.getD (i - 1) 0 ∈ afA TT (l.getD i 0).toNat)
def pvF (TT : List Tk) (SS : List Sn) (b : Int) (C T S : List Int) : Bool :=
  if T = [] then !((List.range C.length).any (chnP TT C)) && decide (sumD TT C ≥ b) else if S = [] then false
  else !(T.any fun i => (List.range SS.length).any (othP TT SS S i.toNat)) && decide (b ≤ shF TT (headF TT) (restF TT) T S.length)
def vfE (TT : List Tk) (SS : List Sn) (b : Int) (C T S : List Int) : Int :=
  if shopE TT SS ≠ 0 then shopE TT SS else if 0 < C.length ∧ 0 < T.length + S.length then 3
  else if (byF C TT.length || byF T TT.length || byF S SS.length) = true then 2 else if (!incF T || !incF S) = true then 8 else if pvF TT SS b C T S = false then 27 else 0
theorem anyHitR {p : Nat → Bool} {n k : Nat} (hk : k < n) (h : p k = true) : (List.range n).any p = true := List.any_eq_true.2 ⟨k, List.mem_range.2 hk, h⟩
theorem anyNoR {p : Nat → Bool} {n : Nat} (h : ∀ k, k < n → p k = false) : (List.range n).any p = false := by
  cases e : (List.range n).any p with
  | false => rfl
  | true => obtain ⟨k, hk, h2⟩ := List.any_eq_true.1 e; rw [h k (List.mem_range.1 hk)] at h2; cases h2
set_option maxRecDepth 10000 in
theorem increasing_spec {al : Option Addr} {nl cl : Nat} {l : List Int} (w : World) (hl : Sl (encF fI) 1 (Hp.whole w) al nl cl l) (hn : l.length < 1000000) :
    CallsE Tryz.prog 62 #[.slice al nl cl] w (RetV w (.bool (incF l))) := by
  have ll := hl.len
  refine enter (X := cx 20) (cxg _) (args := [.slice al nl cl]) [.tmp 2] Tryz.func62 rfl rfl rfl rfl rfl ?_
  refine NeedL.mk Nat (fun k => [(0, .v (.slice al nl cl)), (3, .v (.int .i64 k))]) (fun _ => [.hp (Hp.whole w)])
    (fun k => 1 ≤ k ∧ (k ≤ nl ∨ k = 1) ∧ ∀ j, j < k → incP l j = false) (fun k => nl - k) 1 ⟨Nat.le_refl _, .inr rfl, fun j hj => by unfold incP; rw [decide_eq_false (by omega)]; rfl⟩ (Ent.mk (fun _ _ h => h) rfl rfl) ?_
  rintro k ⟨hk1, hk, hall⟩
  refine bsplitd (fun h1 => ?_) (fun h1 => ?_)
  · have hkl : k < l.length := by omega
    obtain ⟨x, hx⟩ : ∃ x, x = l[k] := ⟨_, rfl⟩
    obtain ⟨y, hy⟩ : ∃ y, y = l[k - 1]'(by omega) := ⟨_, rfl⟩
    have hP : incP l k = decide (x ≤ y) := by unfold incP; rw [decide_eq_true (by omega), gD hkl, gD (show k - 1 < l.length by omega), ← hx, ← hy]; rfl
    refine NeedD.by_order (cxg _) (.take 0 <| .take 1 <| .take 2 <| .take 3 <| .take 4 <| .take 5 <| .take 6 <| .take 7 <| .take 8 <| .take 9 <| .done) (by kernel_rfl) ?_
    refine idx (cxg _) (e := 3) rfl hl k rfl hkl (fun b9 o9 cs hcs hR hcell2 => ?_)
    rw [← hx] at hR
    subst hR
    refine ld1 (cxg _) (i := 0) rfl (hcell2 0 _ rfl) rfl ?_
    refine nw (by omega) (by omega) ?_
    refine idx (cxg _) (e := 3) rfl hl (k - 1) (by omega) (by omega) (fun b9 o9 cs hcs hR hcell3 => ?_)
    rw [← hy] at hR
    subst hR
    refine ld1 (cxg _) (i := 0) rfl (hcell3 0 _ rfl) rfl ?_
    refine bsplitd (fun h4 => ?_) (fun h4 => ?_)
    · exact ⟨[], ⟨by unfold incF; rw [anyHitR (by omega) (hP.trans (decide_eq_true h4))]; rfl, rfl⟩, fun w' h => h⟩
    · refine nw (by omega) (by omega) ?_
      refine ⟨k + 1, ⟨by omega, .inl (by omega), fun j hj => ?_⟩, by omega, Ent.mk (fun _ _ h => h) rfl rfl⟩
      rcases Nat.lt_or_ge j k with h | h
      · exact hall j h
      · rw [show j = k by omega, hP]; exact decide_eq_false h4
  · exact ⟨[], ⟨by unfold incF; rw [anyNoR fun j hj => hall j (by omega)]; rfl, rfl⟩, fun w' h => h⟩
theorem verify11_spec {f0 : Nat} (x m : Int) (w : World) (h : Bx (Hp.whole w) f0 [.int .i64 m]) : CallsE Tryz.prog 61 #[.int .i64 x, .pointer (some ⟨f0, 0, none⟩)] w (RetV w (.bool (decide (x < 0) || decide (x ≥ m)))) := by
  refine enter (X := cx 11) (cxg _) (args := [.int .i64 x, .pointer (some ⟨f0, 0, none⟩)]) [.tmp 3] Tryz.func61 rfl rfl rfl rfl rfl ?_
  refine bsplitd (fun h1 => ?_) (fun h1 => ?_)
  · exact ⟨[], ⟨by rw [decide_eq_true h1]; rfl, rfl⟩, fun w' h => h⟩
  · refine ld1 (cxg _) (i := 0) rfl (h 0 _ rfl) rfl ?_
    exact ⟨[], ⟨by rw [decide_eq_false h1]; rfl, rfl⟩, fun w' h => h⟩
theorem verify1_spec {al : Option Addr} {nl cl : Nat} {l : List Int} (m : Int) (w : World) (hl : Sl (encF fI) 1 (Hp.whole w) al nl cl l) (hn : l.length < 1000000) :
    CallsE Tryz.prog 59 #[.slice al nl cl, .int .i64 m] w (RetV w (.bool (byF l m))) := by
  have ll := hl.len
  refine enter (X := cx 8) (cxg _) (args := [.slice al nl cl, .int .i64 m]) [.tmp 4] Tryz.func59 rfl rfl rfl rfl rfl ?_
  intro b3
  refine callV _ (fun w' hm => containsFuncInts_spec 61 (.pointer (some ⟨b3, 0, none⟩)) (fun k => decide (k < 0) || decide (k ≥ m)) w' (hl.mono (encF_mono _) (hm 0 _ rfl)) (by omega) (fun w2 h2 x _ => verify11_spec x m w2 ((Bx.of (hm 1 _ rfl)).mono h2))) ?_
  exact ⟨[], ⟨rfl, rfl⟩, fun w' h => h.pick [0] rfl rfl⟩
section
variable {a a' : Option Addr} {n c n' c' : Nat} {TT : List Tk} {SS : List Sn}
set_option maxRecDepth 10000 in
theorem proves_spec {ac : Option Addr} {nc cc : Nat} {at' : Option Addr} {nt ct : Nat} {as0 : Option Addr} {ns cs' : Nat} {C T S : List Int} (b : Int) (w : World) (hT : Sl encT 4 (Hp.whole w) a n c TT) (hS : Sl encN 2 (Hp.whole w) a' n' c' SS) (hs : Sml TT SS) (hE : shopE TT SS = 0)
    (hc : Sl (encF fI) 1 (Hp.whole w) ac nc cc C) (ht : Sl (encF fI) 1 (Hp.whole w) at' nt ct T) (hst : Sl (encF fI) 1 (Hp.whole w) as0 ns cs' S) (rC : ∀ x ∈ C, 0 ≤ x ∧ x < (TT.length : Int)) (rT : ∀ x ∈ T, 0 ≤ x ∧ x < (TT.length : Int)) (lC : C.length < 1000) (lT : T.length < 1000) (lS : S.length < 1000) :
    CallsE Tryz.prog 63 #[sv a n c a' n' c', .int .i64 b, .agg #[.slice ac nc cc, .slice at' nt ct, .slice as0 ns cs']] w (RetV w (.bool (pvF TT SS b C T S))) := by
  have kT := hT.len
  have kS := hS.len
  have kc := hc.len
  have kt := ht.len
  have ks := hst.len
  have hF := fit_of hs hE
  have hM := (shop_ok hE).2.1
  refine enter (X := cx 103) (cxg _) (args := [.agg #[.slice a n c, .slice a' n' c'], .int .i64 b, .agg #[.slice ac nc cc, .slice at' nt ct, .slice as0 ns cs']]) [.tmp 6] Tryz.func63 rfl rfl rfl rfl rfl ?_
  intro b3
  intro b5
  refine bsplitd (fun h1 => ?_) (fun h1 => ?_)
  · have hT0 : T = [] := List.eq_nil_of_length_eq_zero (by omega)
    have hp : pvF TT SS b C T S = (!((List.range C.length).any (chnP TT C)) && decide (sumD TT C ≥ b)) := by unfold pvF; rw [if_pos hT0]
    refine NeedL.mk (Nat × Int) (fun g => [(1, .v (.int .i64 b)), (3, .bx 1 0), (5, .bx 2 0), (7, .v (.int .i64 g.2)), (20, .v (.slice ac nc cc)), (21, .v (.int .i64 nc)), (22, .v (.int .i64 g.1))]) (fun _ => [.hp (Hp.whole w), .box b3 [.slice a n c, .slice a' n' c'] 25, .box b5 [.slice ac nc cc, .slice at' nt ct, .slice as0 ns cs'] 30])
      (fun g => g.1 ≤ nc ∧ g.2 = sumD TT (C.take g.1) ∧ (0 ≤ g.2 ∧ g.2 ≤ 1048576 * g.1) ∧ ∀ j, j < g.1 → chnP TT C j = false) (fun g => nc - g.1) (0, 0) ⟨Nat.zero_le _, rfl, ⟨Int.le_refl _, by dsimp only; omega⟩, fun j hj => by dsimp only at hj; omega⟩ (Ent.mk (fun _ _ h => h) rfl rfl) ?_
    rintro ⟨k, s⟩ ⟨hk, hsm, hsb, hall⟩
    dsimp only at *
    refine bsplitd (fun h2 => ?_) (fun h2 => ?_)
    · have hkC : k < C.length := by omega
      obtain ⟨x, hx⟩ : ∃ x, x = C[k] := ⟨_, rfl⟩
      have hxr := rC x (by rw [hx]; exact List.getElem_mem hkC)
      have hxT : x.toNat < TT.length := by omega
      obtain ⟨t, htd⟩ : ∃ t, t = TT[x.toNat] := ⟨_, rfl⟩
      have htm : t ∈ TT := by rw [htd]; exact List.getElem_mem hxT
      have hdu := hF.du t htm
      have hal := hF.al t htm
      have n1 : sumD TT (C.take (k + 1)) = s + t.du := by rw [List.take_succ_eq_append_getElem hkC, sumD_snoc, ← hsm, ← hx]; unfold duA; rw [tk_get hxT, ← htd]
      have hP : chnP TT C k = (decide (0 < k) && !decide (C.getD (k - 1) 0 ∈ t.af)) := by unfold chnP afA; rw [gD hkC, ← hx, tk_get hxT, ← htd]
      refine idx (cxg _) (e := 3) rfl hc k rfl hkC (fun b9 o9 cs hcs hR hcell3 => ?_)
      rw [← hx] at hR
      subst hR
      refine ld1 (cxg _) (i := 0) rfl (hcell3 0 _ rfl) rfl ?_
      refine idx (cxg _) (e := 64) rfl hT x.toNat (by omega) hxT (fun b9 o9 cs hcs hR hcell4 => ?_)
      rw [← htd] at hR
      obtain ⟨a3, n3, c3, rfl, hs3⟩ := hR
      have l3 := hs3.len
      refine ld1 (cxg _) (i := 0) rfl (hcell4 1 _ rfl) rfl ?_
      refine nw (by omega) (by omega) ?_
      refine NeedD.cut Unit (fun _ => [(1, .v (.int .i64 b)), (3, .bx 1 0), (5, .bx 2 0), (7, .v (.int .i64 (s + t.du))), (20, .v (.slice ac nc cc)), (21, .v (.int .i64 nc)), (22, .v (.int .i64 k)), (52, .v (.bool (chnP TT C k)))]) (fun _ => [.hp (Hp.whole w), .box b3 [.slice a n c, .slice a' n' c'] 25, .box b5 [.slice ac nc cc, .slice at' nt ct, .slice as0 ns cs'] 30]) (fun _ => True) (NeedD.by_order (cxg _) (.take 0 <| .take 1 <| .take 2 <| .take 3 <| .take 4 <| .take 5 <| .take 6 <| .take 7 <| .take 8 <| .take 9 <| .take 10 <| .take 11 <| .take 12 <| .take 13 <| .take 14 <| .run 15 <| .take 16 <| .take 17 <| .done) (by kernel_rfl) ?_) ?_
      · refine bsplitd (fun h5 => ?_) (fun h5 => ?_)
        · have hk1 : k - 1 < C.length := by omega
          obtain ⟨y, hy⟩ : ∃ y, y = C[k - 1] := ⟨_, rfl⟩
          rw [gD hk1, ← hy, decide_eq_true (show 0 < k by omega)] at hP
          refine idx (cxg _) (e := 64) rfl hT x.toNat (by omega) hxT (fun b9 o9 cs hcs hR hcell6 => ?_)
          rw [← htd] at hR
          obtain ⟨a4, n4, c4, rfl, hs4⟩ := hR
          have l4 := hs4.len
          refine ld1 (cxg _) (i := 0) rfl (hcell6 3 _ rfl) rfl ?_
          refine nw (by omega) (by omega) ?_
          refine idx (cxg _) (e := 3) rfl hc (k - 1) (by omega) hk1 (fun b9 o9 cs hcs hR hcell7 => ?_)
          rw [← hy] at hR
          subst hR
          refine ld1 (cxg _) (i := 0) rfl (hcell7 0 _ rfl) rfl ?_
          refine callV _ (fun w' hm => containsInts_spec y w' (hs4.mono (encF_mono _) (hm 0 _ rfl)) (by omega)) ?_
          refine ⟨(by repeat first | exact trivial | refine ⟨.inl rfl, ?_⟩ | refine ⟨.inr rfl, ?_⟩), ?_⟩
          exact ⟨(), trivial, Ent.mk (fun _ _ h => h) (by rw [hP]; rfl) rfl⟩
        · refine ⟨(by repeat first | exact trivial | refine ⟨.inl rfl, ?_⟩ | refine ⟨.inr rfl, ?_⟩), ?_⟩
          exact ⟨(), trivial, Ent.mk (fun _ _ h => h) (by rw [hP, decide_eq_false (show ¬ 0 < k by omega)]; rfl) rfl⟩
      rintro ⟨⟩ _ _
      dsimp only
      refine bsplit (fun h8 => ?_) (fun h8 => ?_)
      · exact ⟨[], ⟨by rw [hp, anyHitR hkC h8]; rfl, rfl⟩, fun w' h => h.pick [0] rfl rfl⟩
      · refine nw (by omega) (by omega) ?_
        refine ⟨(k + 1, s + t.du), ⟨by dsimp only; omega, n1.symm, ⟨by dsimp only; omega, by dsimp only; omega⟩, fun j hj => ?_⟩, by dsimp only; omega, Ent.mk (fun _ _ h => h) rfl rfl⟩
        dsimp only at hj
        rcases Nat.lt_or_ge j k with h | h
        · exact hall j h
        · rw [show j = k by omega]; exact h8
    · have hkn : C.take k = C := List.take_of_length_le (by omega)
      rw [hkn] at hsm
      exact ⟨[], ⟨by rw [hp, anyNoR fun j hj => hall j (by omega), hsm]; rfl, rfl⟩, fun w' h => h.pick [0] rfl rfl⟩
  · have hT0 : T ≠ [] := fun e => by rw [e] at kt; simp at kt; omega
    have hTp : 0 < T.length := List.length_pos_iff.2 hT0
    refine bsplitd (fun h9 => ?_) (fun h9 => ?_)
    · have hS0 : S = [] := List.eq_nil_of_length_eq_zero (by omega)
      exact ⟨[], ⟨by unfold pvF; rw [if_neg hT0, if_pos hS0], rfl⟩, fun w' h => h.pick [0] rfl rfl⟩
    have hS0 : S ≠ [] := fun e => by rw [e] at ks; simp at ks; omega
    have hSp : 0 < S.length := List.length_pos_iff.2 hS0
    have hp : pvF TT SS b C T S = (!(T.any fun i => (List.range SS.length).any (othP TT SS S i.toNat)) && decide (b ≤ shF TT (headF TT) (restF TT) T S.length)) := by unfold pvF; rw [if_neg hT0, if_neg hS0]
    refine NeedL.mk Nat (fun q => [(1, .v (.int .i64 b)), (3, .bx 1 0), (5, .bx 2 0), (62, .v (.slice at' nt ct)), (63, .v (.int .i64 nt)), (64, .v (.int .i64 q))]) (fun _ => [.hp (Hp.whole w), .box b3 [.slice a n c, .slice a' n' c'] 25, .box b5 [.slice ac nc cc, .slice at' nt ct, .slice as0 ns cs'] 30])
      (fun q => q ≤ nt ∧ ∀ j (hj : j < T.length), j < q → (List.range SS.length).any (othP TT SS S T[j].toNat) = false) (fun q => nt - q) 0 ⟨Nat.zero_le _, fun j _ hj => by omega⟩ (Ent.mk (fun _ _ h => h) rfl rfl) ?_
    rintro q ⟨hq, hall⟩
    refine bsplitd (fun h10 => ?_) (fun h10 => ?_)
    · have hqT : q < T.length := by omega
      obtain ⟨x, hx⟩ : ∃ x, x = T[q] := ⟨_, rfl⟩
      have hxr := rT x (by rw [hx]; exact List.getElem_mem hqT)
      obtain ⟨i, rfl⟩ : ∃ i : Nat, x = i := ⟨x.toNat, by omega⟩
      have hiT : i < TT.length := by omega
      have hTq : T[q].toNat = i := by rw [← hx]; exact Int.toNat_natCast i
      refine idx (cxg _) (e := 3) rfl ht q rfl hqT (fun b9 o9 cs hcs hR hcell11 => ?_)
      rw [← hx] at hR
      subst hR
      refine ld1 (cxg _) (i := 0) rfl (hcell11 0 _ rfl) rfl ?_
      refine NeedL.mk Nat (fun k => [(1, .v (.int .i64 b)), (3, .bx 1 0), (5, .bx 2 0), (11, .v (.int .i64 i)), (62, .v (.slice at' nt ct)), (63, .v (.int .i64 nt)), (64, .v (.int .i64 q)), (70, .v (.int .i64 n')), (71, .v (.int .i64 k))]) (fun _ => [.hp (Hp.whole w), .box b3 [.slice a n c, .slice a' n' c'] 25, .box b5 [.slice ac nc cc, .slice at' nt ct, .slice as0 ns cs'] 30])
        (fun k => k ≤ n' ∧ ∀ j, j < k → othP TT SS S i j = false) (fun k => n' - k) 0 ⟨Nat.zero_le _, fun j hj => by omega⟩ (Ent.mk (fun _ _ h => h) rfl rfl) ?_
      rintro k ⟨hk, hall2⟩
      have more : othP TT SS S i k = false → ∀ j, j < k + 1 → othP TT SS S i j = false := fun h j hj => by
        rcases Nat.lt_or_ge j k with h' | h'
        · exact hall2 j h'
        · rw [show j = k by omega]; exact h
      refine bsplitd (fun h12 => ?_) (fun h12 => ?_)
      · have hkS : k < SS.length := by omega
        obtain ⟨ca, hca⟩ : ∃ ca, ca = caA TT SS i k := ⟨_, rfl⟩
        have hoP : othP TT SS S i k = (ca && !decide ((k : Int) ∈ S)) := by unfold othP; rw [← hca]
        have kA : ∀ w' : World, Sl encT 4 (Hp.whole w') a n c TT → Sl encN 2 (Hp.whole w') a' n' c' SS → CallsE Tryz.prog 88 #[sv a n c a' n' c', .int .i64 k, .int .i64 i] w' (RetV w' (.bool ca)) := fun w' h1 h2 => by
          rw [hca]; unfold caA; rw [tk_get hiT, gD hkS]; exact able_spec k i w' h1 h2 hiT hkS hs
        refine callV _ (fun w' hm => kA w' (hT.mono encT_mono (hm 0 _ rfl)) (hS.mono encN_mono (hm 0 _ rfl))) ?_
        refine bsplit (fun h13 => ?_) (fun h13 => ?_)
        · refine callV _ (fun w' hm => containsInts_spec (k : Int) w' (hst.mono (encF_mono _) (hm 0 _ rfl)) (by omega)) ?_
          refine bsplit (fun h14 => ?_) (fun h14 => ?_)
          · exact ⟨[], ⟨by rw [hp, List.any_eq_true.2 ⟨(i : Int), by rw [hx]; exact List.getElem_mem hqT, anyHitR (k := k) hkS (by rw [Int.toNat_natCast, hoP, h13, h14]; rfl)⟩]; rfl, rfl⟩, fun w' h => h.pick [0] rfl rfl⟩
          · refine nw (by omega) (by omega) ?_
            exact ⟨k + 1, ⟨by omega, more (by rw [hoP, h13, h14]; rfl)⟩, by omega, Ent.mk (fun _ _ h => h) rfl rfl⟩
        · refine nw (by omega) (by omega) ?_
          exact ⟨k + 1, ⟨by omega, more (by rw [hoP, h13]; rfl)⟩, by omega, Ent.mk (fun _ _ h => h) rfl rfl⟩
      · refine nw (by omega) (by omega) ?_
        refine ⟨q + 1, ⟨by omega, fun j hj hjq => ?_⟩, by omega, Ent.mk (fun _ _ h => h) rfl rfl⟩
        rcases Nat.lt_or_ge j q with h | h
        · exact hall j hj h
        · obtain rfl : j = q := by omega
          rw [hTq]; exact anyNoR fun v hv => hall2 v (by omega)
    · have hno : (T.any fun i => (List.range SS.length).any (othP TT SS S i.toNat)) = false := by
        cases e : (T.any fun i => (List.range SS.length).any (othP TT SS S i.toNat)) with
        | false => rfl
        | true =>
          obtain ⟨x, hx, h⟩ := List.any_eq_true.1 e
          obtain ⟨j, hj, rfl⟩ := List.mem_iff_getElem.1 hx
          rw [hall j hj (by omega)] at h; cases h
      rw [hno] at hp
      have hb := head_bd hF
      have hrb := rest_rb hF
      refine callS (fun w' hm => heads_spec w' (hT.mono encT_mono (hm 0 _ rfl)) (hS.mono encN_mono (hm 0 _ rfl)) hs hE) ?_
      rintro _ _ ⟨oH, oR, rfl, rfl, hoH, hoR⟩ _
      have sH := OwnO.sl (f := fI) (fun _ => rfl) (by decide) hoH
      have sR := OwnO.sl (f := fI) (fun _ => rfl) (by decide) hoR
      obtain ⟨B, hB⟩ : ∃ B, B = shF TT (headF TT) (restF TT) T S.length := ⟨_, rfl⟩
      have kS : ∀ w' : World, Sl encT 4 (Hp.whole w') a n c TT → Sl (encF fI) 1 (Hp.whole w') at' nt ct T → Sl (encF fI) 1 (Hp.whole w') oH.a oH.n oH.c (headF TT) → Sl (encF fI) 1 (Hp.whole w') oR.a oR.n oR.c (restF TT) →
          CallsE Tryz.prog 52 #[sv a n c a' n' c', .slice at' nt ct, .int .i64 ns, .slice oH.a oH.n oH.c, .slice oR.a oR.n oR.c] w' (RetV w' (.int .i64 B)) := fun w' h1 h2 h3 h4 => by
        rw [hB, ks]
        exact shared_spec S.length w' h1 hF h2 h3 h4 rT hTp (by omega) (fun i hi => by have := hb.2 i hi; omega) (fun i hi => by have := hrb.2 i hi; omega) hb.1 hrb.1 hSp (by omega)
      rw [← hB] at hp
      refine callV _ (fun w' hm => kS w' (hT.mono encT_mono (hm 0 _ rfl)) (ht.mono (encF_mono _) (hm 0 _ rfl)) (sH.mono (encF_mono _) (hm 3 _ rfl)) (sR.mono (encF_mono _) (hm 4 _ rfl))) ?_
      exact ⟨[], ⟨by rw [hp]; rfl, rfl⟩, fun w' h => h.pick [0] rfl rfl⟩
theorem by_rng {l : List Int} {m : Int} (h : byF l m = false) : ∀ x ∈ l, 0 ≤ x ∧ x < m := fun x hx => by
  unfold byF at h
  have := List.any_eq_false.1 h x hx
  simp at this; omega
set_option maxRecDepth 10000 in
theorem Verify_spec {ac : Option Addr} {nc cc : Nat} {at' : Option Addr} {nt ct : Nat} {as0 : Option Addr} {ns cs' : Nat} {C T S : List Int} (b : Int) (w : World) (hT : Sl encT 4 (Hp.whole w) a n c TT) (hS : Sl encN 2 (Hp.whole w) a' n' c' SS) (hs : Sml TT SS)
    (hc : Sl (encF fI) 1 (Hp.whole w) ac nc cc C) (ht : Sl (encF fI) 1 (Hp.whole w) at' nt ct T) (hst : Sl (encF fI) 1 (Hp.whole w) as0 ns cs' S) (lC : C.length < 1000) (lT : T.length < 1000) (lS : S.length < 1000) :
    CallsE Tryz.prog 18 #[sv a n c a' n' c', .int .i64 b, .agg #[.slice ac nc cc, .slice at' nt ct, .slice as0 ns cs']] w (RetV w (.int .i64 (vfE TT SS b C T S))) := by
  have kT := hT.len
  have kS := hS.len
  have kc := hc.len
  have kt := ht.len
  have ks := hst.len
  obtain ⟨E, hE⟩ : ∃ E, E = shopE TT SS := ⟨_, rfl⟩
  obtain ⟨v1, hv1⟩ : ∃ v1, v1 = byF C TT.length := ⟨_, rfl⟩
  obtain ⟨v2, hv2⟩ : ∃ v2, v2 = byF T TT.length := ⟨_, rfl⟩
  obtain ⟨v3, hv3⟩ : ∃ v3, v3 = byF S SS.length := ⟨_, rfl⟩
  obtain ⟨i1, hi1⟩ : ∃ i1, i1 = incF T := ⟨_, rfl⟩
  obtain ⟨i2, hi2⟩ : ∃ i2, i2 = incF S := ⟨_, rfl⟩
  obtain ⟨pv, hpv⟩ : ∃ pv, pv = pvF TT SS b C T S := ⟨_, rfl⟩
  have hc0 : vfE TT SS b C T S = if E ≠ 0 then E else if 0 < C.length ∧ 0 < T.length + S.length then 3 else if (v1 || v2 || v3) = true then 2 else if (!i1 || !i2) = true then 8 else if pv = false then 27 else 0 := by
    unfold vfE; rw [hE, hv1, hv2, hv3, hi1, hi2, hpv]
  have kV : ∀ (w' : World), (Hp.whole w).In w' → CallsE Tryz.prog 59 #[.slice ac nc cc, .int .i64 n] w' (RetV w' (.bool v1)) ∧ CallsE Tryz.prog 59 #[.slice at' nt ct, .int .i64 n] w' (RetV w' (.bool v2)) ∧ CallsE Tryz.prog 59 #[.slice as0 ns cs', .int .i64 n'] w' (RetV w' (.bool v3)) ∧
      CallsE Tryz.prog 62 #[.slice at' nt ct] w' (RetV w' (.bool i1)) ∧ CallsE Tryz.prog 62 #[.slice as0 ns cs'] w' (RetV w' (.bool i2)) := fun w' hm => by
    rw [hv1, hv2, hv3, hi1, hi2, kT, kS]
    exact ⟨verify1_spec _ w' (hc.mono (encF_mono _) hm) (by omega), verify1_spec _ w' (ht.mono (encF_mono _) hm) (by omega), verify1_spec _ w' (hst.mono (encF_mono _) hm) (by omega), increasing_spec w' (ht.mono (encF_mono _) hm) (by omega), increasing_spec w' (hst.mono (encF_mono _) hm) (by omega)⟩
  have kP : shopE TT SS = 0 → v1 = false → v2 = false → ∀ w' : World, (Hp.whole w).In w' → CallsE Tryz.prog 63 #[sv a n c a' n' c', .int .i64 b, .agg #[.slice ac nc cc, .slice at' nt ct, .slice as0 ns cs']] w' (RetV w' (.bool pv)) := fun h0 h1 h2 w' hm => by
    rw [hpv]
    exact proves_spec b w' (hT.mono encT_mono hm) (hS.mono encN_mono hm) hs h0 (hc.mono (encF_mono _) hm) (ht.mono (encF_mono _) hm) (hst.mono (encF_mono _) hm) (by_rng (hv1.symm.trans h1)) (by_rng (hv2.symm.trans h2)) lC lT lS
  clear hv1 hv2 hv3 hi1 hi2 hpv
  refine enter (X := cx 72) (cxg _) (args := [.agg #[.slice a n c, .slice a' n' c'], .int .i64 b, .agg #[.slice ac nc cc, .slice at' nt ct, .slice as0 ns cs']]) [.tmp 6] Tryz.func18 rfl rfl rfl rfl rfl ?_
  intro b3
  intro b5
  refine callV (.int .i64 E) (fun w' hm => by rw [hE]; exact chk_spec w' (hT.mono encT_mono (hm 0 _ rfl)) (hS.mono encN_mono (hm 0 _ rfl)) hs) ?_
  refine bsplitd (fun h1 => ?_) (fun h1 => ?_)
  · exact ⟨[], ⟨by rw [hc0, if_pos h1], rfl⟩, fun w' h => h.pick [0] rfl rfl⟩
  have hE0 : shopE TT SS = 0 := by rw [← hE]; omega
  rw [if_neg h1] at hc0
  refine hideQ (fun qz kz => ?_)
  refine kz _ _ ?_
  refine hideQ (fun q0 k0 => ?_)
  refine hideK 5 (fun q1 k1 => ?_)
  refine k1 _ _ ?_
  refine bsplitd (fun h2 => ?_) (fun h2 => ?_)
  · refine nw (by omega) (by omega) ?_
    refine k0 _ _ ?_
    refine bsplitd (c := (nt : Int) + (ns : Int) > 0) (fun h3 => ?_) (fun h3 => ?_)
    · exact ⟨[], ⟨by rw [hc0, if_pos ⟨by omega, by omega⟩], rfl⟩, fun w' h => h.pick [0] rfl rfl⟩
    rw [if_neg (by omega)] at hc0
    refine hideK 8 (fun q1 k1 => ?_)
    refine callV _ (fun w' hm => (kV w' (hm 0 _ rfl)).1) ?_
    refine k1 _ _ ?_
    cases v1 with
    | true => exact ⟨[], ⟨by rw [hc0]; rfl, rfl⟩, fun w' h => h.pick [0] rfl rfl⟩
    | false =>
      refine hideK 9 (fun q2 k2 => ?_)
      refine callV _ (fun w' hm => (kV w' (hm 0 _ rfl)).2.1) ?_
      refine k2 _ _ ?_
      cases v2 with
      | true => exact ⟨[], ⟨by rw [hc0]; rfl, rfl⟩, fun w' h => h.pick [0] rfl rfl⟩
      | false =>
        refine hideQ (fun q3 k3 => ?_)
        refine callV _ (fun w' hm => (kV w' (hm 0 _ rfl)).2.2.1) ?_
        refine k3 _ _ ?_
        cases v3 with
        | true => exact ⟨[], ⟨by rw [hc0]; rfl, rfl⟩, fun w' h => h.pick [0] rfl rfl⟩
        | false =>
          refine hideK 5 (fun q4 k4 => ?_)
          refine callV _ (fun w' hm => (kV w' (hm 0 _ rfl)).2.2.2.1) ?_
          refine k4 _ _ ?_
          cases i1 with
          | false => exact ⟨[], ⟨by rw [hc0]; rfl, rfl⟩, fun w' h => h.pick [0] rfl rfl⟩
          | true =>
            refine hideQ (fun q5 k5 => ?_)
            refine callV _ (fun w' hm => (kV w' (hm 0 _ rfl)).2.2.2.2) ?_
            refine k5 _ _ ?_
            cases i2 with
            | false => exact ⟨[], ⟨by rw [hc0]; rfl, rfl⟩, fun w' h => h.pick [0] rfl rfl⟩
            | true =>
              refine hideQ (fun q6 k6 => ?_)
              refine callV _ (fun w' hm => kP hE0 rfl rfl w' (hm 0 _ rfl)) ?_
              refine k6 _ _ ?_
              cases pv with
              | false => exact ⟨[], ⟨by rw [hc0]; rfl, rfl⟩, fun w' h => h.pick [0] rfl rfl⟩
              | true => exact ⟨[], ⟨by rw [hc0]; rfl, rfl⟩, fun w' h => h.pick [0] rfl rfl⟩
  · rw [if_neg (by omega)] at hc0
    refine k0 _ _ ?_
    refine condF rfl ?_
    refine hideK 8 (fun q1 k1 => ?_)
    refine callV _ (fun w' hm => (kV w' (hm 0 _ rfl)).1) ?_
    refine k1 _ _ ?_
    cases v1 with
    | true => exact ⟨[], ⟨by rw [hc0]; rfl, rfl⟩, fun w' h => h.pick [0] rfl rfl⟩
    | false =>
      refine hideK 9 (fun q2 k2 => ?_)
      refine callV _ (fun w' hm => (kV w' (hm 0 _ rfl)).2.1) ?_
      refine k2 _ _ ?_
      cases v2 with
      | true => exact ⟨[], ⟨by rw [hc0]; rfl, rfl⟩, fun w' h => h.pick [0] rfl rfl⟩
      | false =>
        refine hideQ (fun q3 k3 => ?_)
        refine callV _ (fun w' hm => (kV w' (hm 0 _ rfl)).2.2.1) ?_
        refine k3 _ _ ?_
        cases v3 with
        | true => exact ⟨[], ⟨by rw [hc0]; rfl, rfl⟩, fun w' h => h.pick [0] rfl rfl⟩
        | false =>
          refine hideK 5 (fun q4 k4 => ?_)
          refine callV _ (fun w' hm => (kV w' (hm 0 _ rfl)).2.2.2.1) ?_
          refine k4 _ _ ?_
          cases i1 with
          | false => exact ⟨[], ⟨by rw [hc0]; rfl, rfl⟩, fun w' h => h.pick [0] rfl rfl⟩
          | true =>
            refine hideQ (fun q5 k5 => ?_)
            refine callV _ (fun w' hm => (kV w' (hm 0 _ rfl)).2.2.2.2) ?_
            refine k5 _ _ ?_
            cases i2 with
            | false => exact ⟨[], ⟨by rw [hc0]; rfl, rfl⟩, fun w' h => h.pick [0] rfl rfl⟩
            | true =>
              refine hideQ (fun q6 k6 => ?_)
              refine callV _ (fun w' hm => kP hE0 rfl rfl w' (hm 0 _ rfl)) ?_
              refine k6 _ _ ?_
              cases pv with
              | false => exact ⟨[], ⟨by rw [hc0]; rfl, rfl⟩, fun w' h => h.pick [0] rfl rfl⟩
              | true => exact ⟨[], ⟨by rw [hc0]; rfl, rfl⟩, fun w' h => h.pick [0] rfl rfl⟩
end
end Go.Proofs.YtnlkffccobdbjaaGreat
