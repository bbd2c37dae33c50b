/- Contract of schedule.Best. Its premises are its own. -/
import Derived.Test.YtnlkffccobdbjaaGreatYWz
import Derived.Test.YtnlkffccobdbjaaGreatYX5
namespace Go.Dw
open Go Go.RowKit
theorem ldBn {X : Ctx} {s : List Ch} (hX : X.Good) {T i b T' : Nat} {cs cs' : List Value} (hi : sget s i = some (.box b cs T')) {o : Nat} (hc : (cs.drop o).take cs'.length = cs') (hT : (tget X.tt T).map (fun t => (t.agg, t.size)) = some (true, cs'.length)) {q : TV → Prop} (hq : q (.v (.agg cs'.toArray))) :
    NeedQ X.P s (Instr.loadAt T (.pointer (some ⟨b, 0 + o, none⟩))) q := by
  refine ⟨_, fun w hm => ?_, hq⟩
  cases ht : tget X.tt T with
  | none => simp [ht] at hT
  | some ti =>
    have ha : ti.agg = true ∧ ti.size = cs'.length := by simpa [ht] using hT
    rw [Nat.zero_add]
    have := run_loadCells_list (P := X.P) w ⟨b, o, none⟩ cs' (fun j v hj => by
      rw [Addr.add_mk]
      refine box_cell hm hi ?_
      have hl : j < cs'.length := (List.getElem?_eq_some_iff.1 hj).1
      rw [← hc, List.getElem?_take, if_pos hl, List.getElem?_drop] at hj
      exact hj)
    simp [Instr.loadAt, Instr.sureAddr, loadVar, (Good.und hX ht).agg, (Good.und hX ht).size, ha, this]
end Go.Dw
namespace Go.Proofs.YtnlkffccobdbjaaGreat
open Go Go.RowKit Go.Dw
/-- a list of jobs that can be read, and an error -/
def RetB (w : World) (L : List Jb) (e : Int) : Ending → World → Prop := Ret w fun v cs => ∃ (a : Option Addr) (n c : Nat) (h : Hp), v = .tuple #[.slice a n c, .int .i64 e] ∧ cs = [.hp h] ∧ Sl (encF fJ) 3 h a n c L
def bst0 (TT : List Tk) (SS : List Sn) : List Jb := (lisK TT SS (prL TT (tailsF TT) 1) (prL TT (tailsF TT) 1).length).1
def bstF (TT : List Tk) (SS : List Sn) : Int × List Jb := runF TT SS (tailsF TT) (lowF TT SS).1 TT.length (begS TT SS) 0 (mspF TT (bst0 TT SS), bst0 TT SS)
def bstE (TT : List Tk) (SS : List Sn) : Int := if shopE TT SS ≠ 0 then shopE TT SS else if TT.length > 8 then 6 else 0
def bstR (TT : List Tk) (SS : List Sn) : List Jb := if bstE TT SS = 0 then (bstF TT SS).2 else []
theorem Sl.none0 {R : Enc Jb} {sz : Nat} (h : Hp) : Sl R sz h none 0 0 [] := ⟨rfl, Nat.le_refl _, fun i hi => absurd hi (Nat.not_lt_zero i)⟩
section
variable {a a' : Option Addr} {n c n' c' : Nat} {TT : List Tk} {SS : List Sn}
set_option maxHeartbeats 1000000 in
set_option maxRecDepth 10000 in
theorem Best_spec (w : World) (hT : Sl encT 4 (Hp.whole w) a n c TT) (hS : Sl encN 2 (Hp.whole w) a' n' c' SS) (hs : Sml TT SS) (hN : TT.length ≤ 12) :
    CallsE Tryz.prog 19 #[sv a n c a' n' c'] w (RetB w (bstR TT SS) (bstE TT SS)) := by
  have lT := hT.len
  have lS := hS.len
  obtain ⟨E, hE⟩ : ∃ E, E = shopE TT SS := ⟨_, rfl⟩
  have hc0 : bstE TT SS = if E ≠ 0 then E else if TT.length > 8 then 6 else 0 := by unfold bstE; rw [hE]
  have bad : ∀ x : Int, bstE TT SS = x → x ≠ 0 → bstR TT SS = [] := fun x h hx => by unfold bstR; rw [h, if_neg hx]
  refine enter (X := cx 66) (cxg _) (args := [.agg #[.slice a n c, .slice a' n' c']]) [.tmp 2, .tmp 3] Tryz.func19 rfl rfl rfl rfl rfl ?_
  intro b1
  refine call (fun w' hm => Lower_spec w' (hT.mono encT_mono (hm 0 _ rfl)) (hS.mono encN_mono (hm 0 _ rfl)) hs hN) ?_
  rintro _ _ ⟨p, q, r, hL, rfl, rfl, -, -⟩
  rw [← hE]
  intro b5
  refine bsplitd (fun h1 => ?_) (fun h1 => ?_)
  · rw [if_pos h1] at hc0
    exact ⟨[.hp Hp.emp], ⟨none, 0, 0, Hp.emp, by rw [hc0], rfl, by rw [bad _ hc0 h1]; exact Sl.none0 _⟩, fun w' h => Ok.emp (s := [.hp (Hp.whole w)]) (h.pick [0] rfl rfl)⟩
  have hE0 : shopE TT SS = 0 := by rw [← hE]; omega
  have hF := fit_of hs hE0
  have hM := (shop_ok hE0).2.1
  rw [if_neg h1] at hc0
  refine bsplitd (fun h2 => ?_) (fun h2 => ?_)
  · have h6 : bstE TT SS = 6 := by rw [hc0, if_pos (by omega)]
    exact ⟨[.hp Hp.emp], ⟨none, 0, 0, Hp.emp, by rw [h6], rfl, by rw [bad _ h6 (by decide)]; exact Sl.none0 _⟩, fun w' h => Ok.emp (s := [.hp (Hp.whole w)]) (h.pick [0] rfl rfl)⟩
  have hb0 : bstE TT SS = 0 := by rw [hc0, if_neg (by omega)]
  have hbR : bstR TT SS = (bstF TT SS).2 := by unfold bstR; rw [if_pos hb0]
  have hlow : (lowR TT SS).1 = (lowF TT SS).1 := by unfold lowR; rw [if_pos hE0]
  have hpr : prR TT SS 1 = prL TT (tailsF TT) 1 := by
    have : prE TT SS 1 = 0 := by unfold prE; rw [if_neg (by rw [hE0]; simp)]; rfl
    unfold prR; rw [if_pos this]
  have hta : taiR TT SS = tailsF TT := by unfold taiR; rw [if_pos hE0]
  obtain ⟨lower, hlo⟩ : ∃ lower, lower = (lowR TT SS).1 := ⟨_, rfl⟩
  rw [← hlo]
  rw [← hlo] at hlow
  refine call (fun w' hm => Priority_spec 1 w' (hT.mono encT_mono (hm 0 _ rfl)) (hS.mono encN_mono (hm 0 _ rfl)) hs hN) ?_
  rintro _ _ ⟨oP, rfl, rfl, hoP⟩
  rw [hpr] at hoP
  have sP := OwnO.sl (f := fI) (fun _ => rfl) (by decide) hoP
  refine call (fun w' hm => tTails_spec w' (hT.mono encT_mono (hm 0 _ rfl)) (hS.mono encN_mono (hm 0 _ rfl)) hs) ?_
  rintro _ _ ⟨oT, rfl, rfl, hoT⟩
  rw [hta] at hoT
  have sT := OwnO.sl (f := fI) (fun _ => rfl) (by decide) hoT
  have hO := prL_ord TT (tailsF TT) 1
  have hS0 : Sch TT SS (bst0 TT SS) := lis_sch hF hE0 hO
  have hTl := tails_len hF
  have hTb : ∀ x ∈ tailsF TT, 0 ≤ x ∧ x ≤ 1048576 * 24 := fun x hx => by
    obtain ⟨v, hv, rfl⟩ := List.mem_iff_getElem.1 hx
    have := tl_rng hF (i := v) (by omega)
    rwa [gD hv] at this
  have kL : ∀ w' : World, Sl encT 4 (Hp.whole w') a n c TT → Sl encN 2 (Hp.whole w') a' n' c' SS → Sl (encF fI) 1 (Hp.whole w') oP.a oP.n oP.c (prL TT (tailsF TT) 1) → CallsE Tryz.prog 66 #[sv a n c a' n' c', .slice oP.a oP.n oP.c] w' (Ret w' fun v cs => ∃ o : Dw.Os, v = o.v ∧ cs = [.hp o.h] ∧ OwnO fJ 52 3 o (bst0 TT SS)) := fun w' h1 h2 h3 =>
    list_spec w' h1 h2 hs hE0 h3 hO.l hO.r hO.a
  refine NeedD.cut (Dw.Os × Dw.Os × Dw.Os × Dw.Os × Nat) (fun g => [(1, .bx 1 0), (11, .v (.pointer (some ⟨g.2.2.2.2, 0, none⟩)))])
    (fun g => [.hp (Hp.whole w), .box b1 [.slice a n c, .slice a' n' c'] 25, .hp oT.h, .hp g.1.h, .hp g.2.1.h, .hp g.2.2.1.h, .hp g.2.2.2.1.h, .box g.2.2.2.2 (sV (.slice a n c) (.slice a' n' c') (.slice g.1.a g.1.n g.1.c) (.slice g.2.1.a g.2.1.n g.2.1.c) (.slice g.2.2.1.a g.2.2.1.n g.2.2.1.c) oT.a oT.n oT.c lower g.2.2.2.1.a g.2.2.2.1.n g.2.2.2.1.c 0) 104])
    (fun g => OwnO fJ 52 3 g.1 (List.replicate TT.length (0, 0, 0)) ∧ OwnO fB 4 1 g.2.1 (List.replicate TT.length false) ∧ OwnO fI 3 1 g.2.2.1 (List.replicate SS.length 0) ∧ OwnO fJ 52 3 g.2.2.2.1 (bst0 TT SS)) (NeedD.by_order (cxg _) (.take 0 <| .take 2 <| .take 3 <| .take 4 <| .take 5 <| .run 1 <| .run 6 <| .take 7 <| .run 8 <| .run 9 <| .done) (by kernel_rfl) ?_) ?_
  · refine call (fun w' hm => begin_spec w' (hT.mono encT_mono (hm 0 _ rfl)) (hS.mono encN_mono (hm 0 _ rfl)) hs) ?_
    rintro _ _ ⟨oJ, oD, oF, rfl, rfl, hoJ, hoD, hoF⟩
    refine ⟨(by repeat first | exact trivial | refine ⟨.inl rfl, ?_⟩ | refine ⟨.inr rfl, ?_⟩), ?_⟩
    refine call (fun w' hm => kL w' (hT.mono encT_mono (hm 0 _ rfl)) (hS.mono encN_mono (hm 0 _ rfl)) (sP.mono (encF_mono _) (hm 4 _ rfl))) ?_
    rintro _ _ ⟨oL, rfl, rfl, hoL⟩
    refine ⟨(by repeat first | exact trivial | refine ⟨.inl rfl, ?_⟩ | refine ⟨.inr rfl, ?_⟩), ?_⟩
    intro b43
    refine ⟨(by repeat first | exact trivial | refine ⟨.inl rfl, ?_⟩ | refine ⟨.inr rfl, ?_⟩), ?_⟩
    exact ⟨(oJ, oD, oF, oL, b43), ⟨hoJ, hoD, hoF, hoL⟩, Ent.mk (fun _ _ h => h.pick [0, 1, 5, 6, 7, 8, 9, 10] rfl rfl) rfl rfl⟩
  rintro ⟨oJ, oD, oF, oL, bx⟩ ⟨hoJ, hoD, hoF, hoL⟩ hsat
  dsimp only at *
  have hGb : oL.h bx = none := dj_one (hsat.dj 7 6 rfl rfl (by decide))
  clear hsat kL
  have sL := OwnO.sl (f := fJ) (fun _ => rfl) (by decide) hoL
  have sJ := OwnO.sl (f := fJ) (fun _ => rfl) (by decide) hoJ
  have sD := OwnO.sl (f := fB) (fun _ => rfl) (by decide) hoD
  have sF := OwnO.sl (f := fI) (fun _ => rfl) (by decide) hoF
  obtain ⟨M0, hM0⟩ : ∃ M0, M0 = mspF TT (bst0 TT SS) := ⟨_, rfl⟩
  have kM : ∀ w' : World, Sl encT 4 (Hp.whole w') a n c TT → Sl (encF fJ) 3 (Hp.whole w') oL.a oL.n oL.c (bst0 TT SS) → CallsE Tryz.prog 67 #[sv a n c a' n' c', .slice oL.a oL.n oL.c] w' (RetV w' (.int .i64 M0)) := fun w' h1 h2 => by
    rw [hM0]; exact makespan_spec w' h1 hF h2 hS0.jok (by rw [hS0.len]; omega)
  refine NeedD.cut Unit (fun _ => [(1, .bx 1 0), (11, .v (.pointer (some ⟨bx, 0, none⟩)))])
    (fun _ => [.hp (Hp.whole w), .box b1 [.slice a n c, .slice a' n' c'] 25, .hp oT.h, .hp oJ.h, .hp oD.h, .hp oF.h, .hp oL.h, .box bx (sV (.slice a n c) (.slice a' n' c') (.slice oJ.a oJ.n oJ.c) (.slice oD.a oD.n oD.c) (.slice oF.a oF.n oF.c) oT.a oT.n oT.c lower oL.a oL.n oL.c M0) 104])
    (fun _ => True) (NeedD.by_order0 (cxg _) (.take 0 <| .take 1 <| .take 2 <| .take 3 <| .take 4 <| .run 5 <| .run 6 <| .take 7 <| .take 8 <| .run 9 <| .done) (by kernel_rfl) (subL_blank _ 7) ?_) ?_
  · refine ldB (cxg _) (i := 7) rfl (j := 7) rfl rfl ?_
    refine ⟨(by repeat first | exact trivial | refine ⟨.inl rfl, ?_⟩ | refine ⟨.inr rfl, ?_⟩), ?_⟩
    refine callV _ (fun w' hm => kM w' (hT.mono encT_mono (hm 0 _ rfl)) (sL.mono (encF_mono _) (hm 6 _ rfl))) ?_
    refine ⟨(by repeat first | exact trivial | refine ⟨.inl rfl, ?_⟩ | refine ⟨.inr rfl, ?_⟩), ?_⟩
    refine stB (cxg _) (i := 7) rfl (j := 8) (v := .int .i64 M0) rfl rfl (by simp) rfl rfl ?_
    refine ⟨(by repeat first | exact trivial | refine ⟨.inl rfl, ?_⟩ | refine ⟨.inr rfl, ?_⟩), ?_⟩
    exact ⟨(), trivial, Ent.mk (fun _ _ h => h) rfl rfl⟩
  rintro ⟨⟩ _ _
  dsimp only
  have hP0 : Par TT SS (begS TT SS) [] := begS_par
  have hJ0 : ∀ j ∈ (begS TT SS).1, JOk TT.length j := (Inv.zero TT SS).ok (by decide)
  refine NeedD.cut (Option Addr × Nat × Nat × Hp) (fun g => [(11, .v (.pointer (some ⟨bx, 0, none⟩)))])
    (fun g => [.hp (Hp.whole w), .hp g.2.2.2, .box bx (sV (.slice a n c) (.slice a' n' c') (.slice oJ.a oJ.n oJ.c) (.slice oD.a oD.n oD.c) (.slice oF.a oF.n oF.c) oT.a oT.n oT.c lower g.1 g.2.1 g.2.2.1 (bstF TT SS).1) 104])
    (fun g => Sl (encF fJ) 3 g.2.2.2 g.1 g.2.1 g.2.2.1 (bstF TT SS).2) (NeedD.by_order0 (s0 := [.hp (Hp.whole w), .box b1 [.slice a n c, .slice a' n' c'] 25, .hp oT.h, .hp oJ.h, .hp oD.h, .hp oF.h, .hp Hp.emp, .hp Hp.emp]) (cxg _) (.take 0 <| .take 1 <| .take 2 <| .take 3 <| .take 5 <| .take 6 <| .take 7 <| .run 4 <| .run 8 <| .done) (by kernel_rfl) ((by repeat first | exact trivial | refine ⟨.inl rfl, ?_⟩ | refine ⟨.inr rfl, ?_⟩)) ?_) ?_
  · refine ldBn (cxg _) (i := 7) (cs' := [.slice a n c, .slice a' n' c', .slice oJ.a oJ.n oJ.c, .slice oD.a oD.n oD.c, .slice oF.a oF.n oF.c]) rfl rfl rfl ?_
    refine ⟨(by repeat first | exact trivial | refine ⟨.inl rfl, ?_⟩ | refine ⟨.inr rfl, ?_⟩), ?_⟩
    refine callMX (i := 7) (j := 6) (by decide) rfl rfl (R := RunR TT SS (tailsF TT) lower (.slice a n c) (.slice a' n' c') (.slice oJ.a oJ.n oJ.c) (.slice oD.a oD.n oD.c) (.slice oF.a oF.n oF.c) oT.a oT.n oT.c n (begS TT SS) 0 (M0, bst0 TT SS)) (fun w0 w1 hok => ?_) ?_
    · have lc := fun {i : Nat} {cc : Ch} (hi : sget [.hp (Hp.whole w), .box b1 [.slice a n c, .slice a' n' c'] 25, .hp oT.h, .hp oJ.h, .hp oD.h, .hp oF.h, .hp oL.h, .box bx (sV (.slice a n c) (.slice a' n' c') (.slice oJ.a oJ.n oJ.c) (.slice oD.a oD.n oD.c) (.slice oF.a oF.n oF.c) oT.a oT.n oT.c lower oL.a oL.n oL.c M0) 104] i = some cc) (h7 : i ≠ 7) (h6 : i ≠ 6) => Hp.le_minus (hok.mem i _ hi).whole (Hp.dj_both (hok.disj i 7 _ _ h7 hi rfl) (hok.disj i 6 _ _ h6 hi rfl))
      exact run_spec (x := (M0, bst0 TT SS)) hs hE0 hTl hTb n (begS TT SS) [] 0 oL.a oL.n oL.c oL.h oJ.a oJ.n oJ.c oD.a oD.n oD.c oF.a oF.n oF.c w1 hP0 (by simp [lT]) hJ0 hGb (Hp.both_In (hok.mem 7 _ rfl) (hok.mem 6 _ rfl)) sL (hT.mono encT_mono (lc (i := 0) rfl (by decide) (by decide))) (hS.mono encN_mono (lc (i := 0) rfl (by decide) (by decide))) (sT.mono (encF_mono _) (lc (i := 2) rfl (by decide) (by decide))) (sJ.mono (encF_mono _) (lc (i := 3) rfl (by decide) (by decide))) (sD.mono (encF_mono _) (lc (i := 4) rfl (by decide) (by decide))) (sF.mono (encF_mono _) (lc (i := 5) rfl (by decide) (by decide)))
    · rintro _ cs' G' hGb' ⟨rfl, ba', bn', bc', rfl, hB'⟩
      have e : runF TT SS (tailsF TT) lower n (begS TT SS) 0 (M0, bst0 TT SS) = bstF TT SS := by unfold bstF; rw [← hM0, ← hlow, lT]
      rw [e] at hB' ⊢
      refine ⟨(by repeat first | exact trivial | refine ⟨.inl rfl, ?_⟩ | refine ⟨.inr rfl, ?_⟩), ?_⟩
      exact ⟨(ba', bn', bc', G'), hB', Ent.mk (fun _ _ h => h.pick [0, 6, 7] rfl rfl) rfl rfl⟩
  rintro ⟨ba, bn, bc, G⟩ hB _
  dsimp only at *
  refine ldB (cxg _) (i := 2) rfl (j := 7) rfl rfl ?_
  exact ⟨[.hp G], ⟨ba, bn, bc, G, by rw [hb0], rfl, by rw [hbR]; exact hB⟩, fun w' h => h.pick [0, 1] rfl rfl⟩
end
end Go.Proofs.YtnlkffccobdbjaaGreat
