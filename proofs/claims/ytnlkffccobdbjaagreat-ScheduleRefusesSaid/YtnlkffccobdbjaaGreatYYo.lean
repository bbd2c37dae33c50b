/- The law ScheduleRefuses returns true. Its premises are its own. -/
import Derived.Test.YtnlkffccobdbjaaGreatYXk
import Derived.Test.YtnlkffccobdbjaaGreatYY2
import Derived.Test.YtnlkffccobdbjaaGreatYXt
namespace Go.Dw
open Go Go.RowKit
theorem nwN {k : IntKind} {x : Int} {q : Int → Prop} (h : k.wrap x = x) (hq : q x) : NeedW k x q := ⟨x, h, hq⟩
theorem qStrI {X : Ctx} (hX : X.Good) {s : List Ch} {S T : Nat} {ti tj : TI} {k : IntKind} {n : Int} (hS : tget X.tt S = some ti) (hi : ti.k = .int k) (hT : tget X.tt T = some tj) (hj : tj.k = .str) {q : TV → Prop} (h : q (.v (.string (Utf8.encode n)))) : NeedQ X.P s (convert S T (.int k n)) q := by
  obtain ⟨k1, sz1, by1, z1⟩ := ti
  obtain ⟨k2, sz2, by2, z2⟩ := tj
  subst hi hj
  have e1 := (Good.und hX hS).2
  have e2 := (Good.und hX hT).2
  refine ⟨_, fun w _ => ?_, h⟩
  have u1 : (underlying S).run X.P w = .ok (.int k) w := by simp [underlying, show X.P.underlying S = _ from e1]
  have u2 : (underlying T).run X.P w = .ok .string w := by simp [underlying, show X.P.underlying T = _ from e2]
  simp [convert, u1, u2, Conv.intToString]
end Go.Dw
namespace Go.Proofs.YtnlkffccobdbjaaGreat
open Go Go.RowKit Go.Dw
/-- equal tasks -/
def eqTk (i : Nat) : Tk := ⟨Utf8.encode (97 + i), 1, ⟨#[]⟩, []⟩
def eqTs (m : Nat) : List Tk := (List.range m).map eqTk
def eqSs : List Sn := [⟨⟨#[120]⟩, []⟩]
def fK (i : Nat) : List Value := [.string (Utf8.encode (97 + i)), .int .i64 1, .string ⟨#[]⟩, .slice none 0 0]
theorem eq_shop : ∀ m, m < 4 → shopE (eqTs (m + 7)) eqSs = 0 := by decide +kernel
theorem eq_sml (m : Nat) (hm : m < 1000) : Sml (eqTs m) eqSs := by
  refine ⟨by unfold eqTs; simp; exact hm, by decide, fun t ht => ?_, fun s hs => ?_⟩
  · unfold eqTs at ht
    obtain ⟨i, _, rfl⟩ := List.mem_map.1 ht
    show ([] : List Int).length < 1000
    decide
  · rw [List.mem_singleton.1 hs]
    show ([] : List ByteArray).length < 1000
    decide
theorem eqK_sl {h : Hp} {a : Option Addr} {n c m : Nat} (hs : Sl (encF fK) 4 h a n c (List.range m)) : Sl encT 4 h a n c (eqTs m) := by
  refine ⟨by unfold eqTs; rw [List.length_map]; exact hs.len, hs.cap, fun i hi => ?_⟩
  unfold eqTs at hi
  rw [List.length_map] at hi
  obtain ⟨b, off, cs, h1, h2, h3, h4⟩ := hs.cells i hi
  refine ⟨b, off, cs, h1, h2, ?_, h4⟩
  have h3 : cs = fK (List.range m)[i] := h3
  unfold eqTs
  rw [List.getElem_map, h3]
  generalize (List.range m)[i] = j
  have z0 : Sl (encF fI) 1 h none 0 0 [] := Sd.nil_rd _
  have hf : fK j = [.string (eqTk j).nm, .int .i64 (eqTk j).du, .string (eqTk j).tl, .slice none 0 0] := by simp only [fK, eqTk]
  rw [hf]
  exact ⟨none, 0, 0, rfl, z0⟩
/-- an empty list and an error -/
def RetZ (w : World) (E : Int) : Ending → World → Prop := Ret w fun v cs => ∃ (a : Option Addr) (c : Nat) (h : Hp), v = .tuple #[.slice a 0 c, .int .i64 E] ∧ cs = [.hp h]
theorem RetI.z {P : Program} {f : Nat} {args : Array Value} {w : World} {E : Int} (h : CallsE P f args w (RetI w [] E)) : CallsE P f args w (RetZ w E) := by
  refine ⟨h.1, h.2.mono fun e w2 he => ?_⟩
  obtain ⟨v, cs, rfl, h3, ⟨oa, on, oc, oh⟩, rfl, rfl, ho⟩ := he
  obtain rfl : on = 0 := ho.len
  exact ⟨_, _, rfl, h3, oa, oc, oh, rfl, rfl⟩
theorem RetJ.z {P : Program} {f : Nat} {args : Array Value} {w : World} {E : Int} (h : CallsE P f args w (RetJ w [] E)) : CallsE P f args w (RetZ w E) := by
  refine ⟨h.1, h.2.mono fun e w2 he => ?_⟩
  obtain ⟨v, cs, rfl, h3, ⟨oa, on, oc, oh⟩, rfl, rfl, ho⟩ := he
  obtain rfl : on = 0 := ho.len
  exact ⟨_, _, rfl, h3, oa, oc, oh, rfl, rfl⟩
theorem RetB.z {P : Program} {f : Nat} {args : Array Value} {w : World} {E : Int} (h : CallsE P f args w (RetB w [] E)) : CallsE P f args w (RetZ w E) := by
  refine ⟨h.1, h.2.mono fun e w2 he => ?_⟩
  obtain ⟨v, cs, rfl, h3, oa, on, oc, oh, rfl, rfl, ho⟩ := he
  obtain rfl : on = 0 := ho.len
  exact ⟨_, _, rfl, h3, oa, oc, oh, rfl, rfl⟩
def RetLZ (w : World) (E : Int) : Ending → World → Prop := Ret w fun v cs => ∃ (a : Option Addr) (c : Nat) (a2 : Option Addr) (c2 : Nat) (a3 : Option Addr) (c3 : Nat) (h : Hp), v = .tuple #[.int .i64 0, .agg #[.slice a 0 c, .slice a2 0 c2, .slice a3 0 c3], .int .i64 E] ∧ cs = [.hp h]
theorem RetL.z {P : Program} {f : Nat} {args : Array Value} {w : World} {E : Int} (h : CallsE P f args w (RetL w (0, [], [], []) E)) : CallsE P f args w (RetLZ w E) := by
  refine ⟨h.1, h.2.mono fun e w2 he => ?_⟩
  obtain ⟨v, cs, rfl, h3, ⟨pa, pn, pc, pL⟩, ⟨qa, qn, qc, qL⟩, ⟨ra, rn, rc, rL⟩, hL, rfl, rfl, ⟨rp, rq, rr⟩, hLe⟩ := he
  simp only [Prod.mk.injEq] at hLe
  obtain ⟨rfl, rfl, rfl⟩ := hLe
  obtain rfl : pn = 0 := rp.len
  obtain rfl : qn = 0 := rq.len
  obtain rfl : rn = 0 := rr.len
  exact ⟨_, _, rfl, h3, pa, pc, qa, qc, ra, rc, hL, rfl, rfl⟩
section
variable {a a' : Option Addr} {n c n' c' : Nat} {TT : List Tk} {SS : List Sn}
set_option maxHeartbeats 2000000 in
set_option maxRecDepth 10000 in
theorem refuses50_ok (many : Int) (w : World) (hT : Sl encT 4 (Hp.whole w) a n c TT) (hS : Sl encN 2 (Hp.whole w) a' n' c' SS) (hl : 0 ≤ many ∧ many ≤ 255) :
    CallsE Tryz.prog 11 #[sv a n c a' n' c', .int .u8 many] w (RetV w (.bool true)) := by
  obtain ⟨fi, hfi⟩ : ∃ fi, fi = fewF49 TT SS := ⟨_, rfl⟩
  have kF : ∀ w' : World, Sl encT 4 (Hp.whole w') a n c TT → Sl encN 2 (Hp.whole w') a' n' c' SS → CallsE Tryz.prog 46 #[sv a n c a' n' c'] w' (RetV w' (.bool fi)) := fun w' h1 h2 => by
    rw [hfi]; exact Few_spec w' h1 h2
  refine enter (X := cx 202) (cxg _) (args := [.agg #[.slice a n c, .slice a' n' c'], .int .u8 many]) [.tmp 4] Tryz.func11 rfl rfl rfl rfl rfl ?_
  intro b2
  refine hideQ (fun _ kz => kz _ _ ?_)
  refine hideQ (fun q0 k0 => ?_)
  refine hideK 3 (fun q1 k1 => ?_)
  refine callV _ (fun w' _ => known50_spec w') ?_
  refine k1 _ _ ?_
  refine hideK 4 (fun q2 k2 => ?_)
  refine callV _ (fun w' hm => kF w' (hT.mono encT_mono (hm 0 _ rfl)) (hS.mono encN_mono (hm 0 _ rfl))) ?_
  refine k2 _ _ ?_
  cases fi with
  | false =>
    refine k0 _ _ ?_
    refine condT rfl ?_
    refine callV _ (fun w' _ => known50_spec w') ?_
    exact ⟨[], ⟨rfl, rfl⟩, fun w' h => h.pick [0] rfl rfl⟩
  | true =>
    obtain ⟨hs, hN8, -, -⟩ := few49_sml hfi.symm
    have hst := few49_str hfi.symm
    refine k0 _ _ ?_
    refine condF rfl ?_
    intro b35
    intro b5
    refine hideQ (fun _ kz => kz _ _ ?_)
    refine normS [.hp (Hp.whole w), .box b2 [.slice a n c, .slice a' n' c'] 25, .box b35 [.string ⟨#[120]⟩, .slice none 0 0] 60, .box b5 [.slice none 0 0, .slice (some ⟨b35, 0, none⟩) 1 1] 25] rfl ?_
    obtain ⟨u, hu, hu4⟩ : ∃ u : Nat, (u : Int) = many % 4 ∧ u < 4 := ⟨(many % 4).toNat, by omega, by omega⟩
    refine qRemI (by omega) (by omega) ?_
    rw [← hu]
    refine nw (by omega) (by omega) ?_
    refine nw (by omega) (by omega) ?_
    refine nwEq (y := ((u + 7 : Nat) : Int)) (by omega) (by omega) (by omega) ?_
    refine NeedL.mk (Nat × Dw.Os) (fun g => [(2, .bx 1 0), (5, .bx 3 0), (41, .v (.int .i64 ((u + 7 : Nat) : Int))), (42, .v (.int .i64 g.1))])
      (fun g => [.hp (Hp.whole w), .box b2 [.slice a n c, .slice a' n' c'] 25, .box b35 [.string ⟨#[120]⟩, .slice none 0 0] 60, .box b5 [g.2.v, .slice (some ⟨b35, 0, none⟩) 1 1] 25, .hp g.2.h])
      (fun g => g.1 ≤ u + 7 ∧ OwnO fK 64 4 g.2 (List.range g.1)) (fun g => u + 7 - g.1) (0, Os.nil) ⟨Nat.zero_le _, OwnO.nil _ _ _⟩ (Ent.mk (fun _ _ h => h.emp) rfl rfl) ?_
    rintro ⟨k, o⟩ ⟨hk, ho⟩
    dsimp only at *
    refine bsplitd (fun h3 => ?_) (fun h3 => ?_)
    · refine nw (by omega) (by omega) ?_
      refine nwN (by rw [IntKind.wrap_i32]; omega) ?_
      refine qStrI (cxg _) rfl rfl rfl rfl ?_
      intro b52
      refine appO (f := fK) (cxg _) (e := 64) rfl (i := 4) rfl ho (j := 5) k rfl rfl rfl rfl (by simp; omega) (fun o2 ho2 => ?_)
      refine nw (by omega) (by omega) ?_
      exact ⟨(k + 1, o2), ⟨by dsimp only; omega, by dsimp only; rw [List.range_succ]; exact ho2⟩, by dsimp only; omega, Ent.mk (fun _ _ h => h.pick [0, 1, 2, 3, 4] rfl rfl) rfl rfl⟩
    obtain rfl : k = u + 7 := by omega
    clear h3 hk
    obtain ⟨ka, kn, kc, kh⟩ := o
    have hkK : kn = u + 7 := by have := ho.len; dsimp only at this; rw [this]; simp
    subst hkK
    dsimp only at *
    have sK := OwnO.sl (f := fK) (fun _ => rfl) (by decide) ho
    have lK := sK.len
    have hqE := eq_shop u hu4
    have hqs := eq_sml (u + 7) (by omega)
    have hql : (eqTs (u + 7)).length = u + 7 := by unfold eqTs; simp
    obtain ⟨B, hB⟩ : ∃ B, B = bstR (eqTs (u + 7)) eqSs := ⟨_, rfl⟩
    obtain ⟨Z, hZ⟩ : ∃ Z, Z = bstE (eqTs (u + 7)) eqSs := ⟨_, rfl⟩
    have hZ2 : Z = if u + 7 > 8 then 6 else 0 := by rw [hZ]; unfold bstE; rw [if_neg (fun h => h hqE), hql]
    have hB2 : u + 7 > 8 → B.length = 0 := fun h => by
      have e : bstE (eqTs (u + 7)) eqSs = 6 := by rw [← hZ, hZ2, if_pos h]
      rw [hB]; unfold bstR; rw [if_neg (by rw [e]; decide)]; rfl
    have hB3 : ¬ u + 7 > 8 → B.length = u + 7 := fun h => by
      rw [hB, ((bst_best (fit_of hqs hqE) hqE (by omega)).1).len, hql]
    have kB : ∀ w' : World, Sl (encF fK) 4 (Hp.whole w') ka (u + 7) kc (List.range (u + 7)) → Bx (Hp.whole w') b35 [.string ⟨#[120]⟩, .slice none 0 0] → CallsE Tryz.prog 19 #[sv ka (u + 7) kc (some ⟨b35, 0, none⟩) 1 1] w' (RetB w' B Z) := fun w' h1 h2 => by
      rw [hB, hZ]
      refine Best_spec w' (eqK_sl h1) (SlB h2 rfl rfl fun i hi => ?_) hqs (by omega)
      have hi : i < 1 := hi
      match i, hi with
      | 0, _ => exact ⟨none, 0, 0, rfl, ⟨rfl, Nat.le_refl _, fun i hi => absurd hi (Nat.not_lt_zero i)⟩⟩
    obtain ⟨E, hE⟩ : ∃ E, E = shopE TT SS := ⟨_, rfl⟩
    refine call (fun w' hm => kB w' (sK.mono (encF_mono _) (hm 4 _ rfl)) (Bx.of (hm 2 _ rfl))) ?_
    rintro _ _ ⟨ba, bn, bc, hG, rfl, rfl, sB⟩
    have lB := sB.len
    clear kB hB hZ
    have zI : ∀ h : Hp, Sl (encF fI) 1 h none 0 0 [] := fun h => Sd.nil_rd h
    have zJ : ∀ h : Hp, Sl (encF fJ) 3 h none 0 0 [] := fun _ => ⟨rfl, Nat.le_refl _, fun i hi => absurd hi (Nat.not_lt_zero i)⟩
    have kM : ∀ w' : World, E ≠ 0 → Sl encT 4 (Hp.whole w') a n c TT → Sl encN 2 (Hp.whole w') a' n' c' SS → CallsE Tryz.prog 39 #[sv a n c a' n' c', .slice none 0 0] w' (RetV w' (.tuple #[.int .i64 0, .int .i64 E])) := fun w' h0 h1 h2 => by
      have := Makespan_spec w' h1 h2 hs (zJ _)
      have c1 : chkE TT SS [] = E := by unfold chkE; rw [if_pos (by rw [← hE]; exact h0), hE]
      unfold mkR at this
      rwa [c1, if_neg h0] at this
    have kI : ∀ w' : World, E ≠ 0 → Sl encT 4 (Hp.whole w') a n c TT → Sl encN 2 (Hp.whole w') a' n' c' SS → CallsE Tryz.prog 42 #[sv a n c a' n' c', .slice none 0 0] w' (RetZ w' E) := fun w' h0 h1 h2 => by
      have := Idle_spec w' h1 h2 hs (zJ _)
      have c1 : chkE TT SS [] = E := by unfold chkE; rw [if_pos (by rw [← hE]; exact h0), hE]
      unfold idR at this
      rw [c1, if_neg h0] at this
      exact RetI.z this
    have kY : ∀ w' : World, E ≠ 0 → Sl encT 4 (Hp.whole w') a n c TT → Sl encN 2 (Hp.whole w') a' n' c' SS → CallsE Tryz.prog 40 #[sv a n c a' n' c', .slice none 0 0] w' (RetZ w' E) := fun w' h0 h1 h2 => by
      have := Early_spec w' h1 h2 hs (zJ _) (by omega) (by decide)
      have c1 : chkE TT SS [] = E := by unfold chkE; rw [if_pos (by rw [← hE]; exact h0), hE]
      unfold earR at this
      rw [c1, if_neg h0] at this
      exact RetJ.z this
    have kP : ∀ w' : World, E ≠ 0 → Sl encT 4 (Hp.whole w') a n c TT → Sl encN 2 (Hp.whole w') a' n' c' SS → CallsE Tryz.prog 26 #[sv a n c a' n' c', .int .i64 1] w' (RetZ w' E) := fun w' h0 h1 h2 => by
      have := Priority_spec 1 w' h1 h2 hs (by omega)
      have c1 : prE TT SS 1 = E := by unfold prE; rw [if_pos (by rw [← hE]; exact h0), hE]
      unfold prR at this
      rw [c1, if_neg h0] at this
      exact RetI.z this
    have kO : ∀ w' : World, E ≠ 0 → Sl encT 4 (Hp.whole w') a n c TT → Sl encN 2 (Hp.whole w') a' n' c' SS → CallsE Tryz.prog 24 #[sv a n c a' n' c', .slice none 0 0] w' (RetZ w' E) := fun w' h0 h1 h2 => by
      have := List_spec w' h1 h2 hs (zI _) (by decide)
      have c1 : lisE TT SS [] = E := by unfold lisE; rw [if_pos (by rw [← hE]; exact h0), hE]
      unfold lisR at this
      rw [c1, if_neg h0] at this
      exact RetJ.z this
    have kL : ∀ w' : World, E ≠ 0 → Sl encT 4 (Hp.whole w') a n c TT → Sl encN 2 (Hp.whole w') a' n' c' SS → CallsE Tryz.prog 15 #[sv a n c a' n' c'] w' (RetLZ w' E) := fun w' h0 h1 h2 => by
      have := Lower_spec w' h1 h2 hs (by omega)
      unfold lowR at this
      rw [if_neg (by rw [← hE]; exact h0), ← hE] at this
      exact RetL.z this
    have kB : ∀ w' : World, E ≠ 0 → Sl encT 4 (Hp.whole w') a n c TT → Sl encN 2 (Hp.whole w') a' n' c' SS → CallsE Tryz.prog 19 #[sv a n c a' n' c'] w' (RetZ w' E) := fun w' h0 h1 h2 => by
      have := Best_spec w' h1 h2 hs (by omega)
      have c1 : bstE TT SS = E := by unfold bstE; rw [if_pos (by rw [← hE]; exact h0), hE]
      unfold bstR at this
      rw [c1, if_neg h0] at this
      exact RetB.z this
    have kC : ∀ w' : World, E ≠ 0 → Sl encT 4 (Hp.whole w') a n c TT → Sl encN 2 (Hp.whole w') a' n' c' SS → CallsE Tryz.prog 43 #[sv a n c a' n' c', .slice none 0 0] w' (RetV w' (.int .i64 E)) := fun w' h0 h1 h2 => by
      have := Check_spec w' h1 h2 hs (zJ _)
      have c1 : chkE TT SS [] = E := by unfold chkE; rw [if_pos (by rw [← hE]; exact h0), hE]
      rwa [c1] at this
    have kV : ∀ w' : World, E ≠ 0 → Sl encT 4 (Hp.whole w') a n c TT → Sl encN 2 (Hp.whole w') a' n' c' SS → CallsE Tryz.prog 18 #[sv a n c a' n' c', .int .i64 0, .agg #[.slice none 0 0, .slice none 0 0, .slice none 0 0]] w' (RetV w' (.int .i64 E)) := fun w' h0 h1 h2 => by
      have := Verify_spec 0 w' h1 h2 hs (zI _) (zI _) (zI _) (by decide) (by decide) (by decide)
      have c1 : vfE TT SS 0 [] [] [] = E := by unfold vfE; rw [if_pos (by rw [← hE]; exact h0), hE]
      rwa [c1] at this
    have kW : ∀ w' : World, Sl encT 4 (Hp.whole w') a n c TT → Sl encN 2 (Hp.whole w') a' n' c' SS → CallsE Tryz.prog 35 #[sv a n c a' n' c'] w' (RetV w' (.int .i64 E)) := fun w' h1 h2 => by rw [hE]; exact Check49_spec w' h1 h2 hs hst
    refine hideQ (fun _ kz => kz _ _ ?_)
    refine normS [.hp (Hp.whole w), .box b2 [.slice a n c, .slice a' n' c'] 25, .box b35 [.string ⟨#[120]⟩, .slice none 0 0] 60, .box b5 [.slice ka (u + 7) kc, .slice (some ⟨b35, 0, none⟩) 1 1] 25, .hp kh, .hp hG] rfl ?_
    refine bsplitd (fun h4 => ?_) (fun h4 => ?_)
    · have h4' : u + 7 > 8 := by omega
      rw [if_pos h4'] at hZ2
      subst hZ2
      obtain rfl : bn = 0 := by rw [lB]; exact hB2 h4'
      refine callV (.int .i64 E) (fun w' hm => kW w' (hT.mono encT_mono (hm 0 _ rfl)) (hS.mono encN_mono (hm 0 _ rfl))) ?_
      refine bsplitd (fun h7 => ?_) (fun h7 => ?_)
      · exact ⟨[], ⟨rfl, rfl⟩, fun w' h => h.pick [0] rfl rfl⟩
      refine callV (.tuple #[.int .i64 0, .int .i64 E]) (fun w' hm => kM w' h7 (hT.mono encT_mono (hm 0 _ rfl)) (hS.mono encN_mono (hm 0 _ rfl))) ?_
      refine call (fun w' hm => kI w' h7 (hT.mono encT_mono (hm 0 _ rfl)) (hS.mono encN_mono (hm 0 _ rfl))) ?_
      rintro _ _ ⟨oIa, oIc, oIh, rfl, rfl⟩
      refine call (fun w' hm => kY w' h7 (hT.mono encT_mono (hm 0 _ rfl)) (hS.mono encN_mono (hm 0 _ rfl))) ?_
      rintro _ _ ⟨oYa, oYc, oYh, rfl, rfl⟩
      refine call (fun w' hm => kP w' h7 (hT.mono encT_mono (hm 0 _ rfl)) (hS.mono encN_mono (hm 0 _ rfl))) ?_
      rintro _ _ ⟨oPa, oPc, oPh, rfl, rfl⟩
      refine call (fun w' hm => kO w' h7 (hT.mono encT_mono (hm 0 _ rfl)) (hS.mono encN_mono (hm 0 _ rfl))) ?_
      rintro _ _ ⟨oOa, oOc, oOh, rfl, rfl⟩
      refine call (fun w' hm => kL w' h7 (hT.mono encT_mono (hm 0 _ rfl)) (hS.mono encN_mono (hm 0 _ rfl))) ?_
      rintro _ _ ⟨pa, pc, qa, qc, ra, rc, hL, rfl, rfl⟩
      intro b21
      refine hideQ (fun _ kz => kz _ _ ?_)
      refine normS [.hp (Hp.whole w), .box b2 [.slice a n c, .slice a' n' c'] 25, .box b35 [.string ⟨#[120]⟩, .slice none 0 0] 60, .box b5 [.slice ka (u + 7) kc, .slice (some ⟨b35, 0, none⟩) 1 1] 25, .hp kh, .hp hG, .hp oIh, .hp oYh, .hp oPh, .hp oOh, .hp hL, .box b21 [.slice pa 0 pc, .slice qa 0 qc, .slice ra 0 rc] 30] rfl ?_
      refine call (fun w' hm => kB w' h7 (hT.mono encT_mono (hm 0 _ rfl)) (hS.mono encN_mono (hm 0 _ rfl))) ?_
      rintro _ _ ⟨da, dc, hD, rfl, rfl⟩
      refine hideQ (fun _ kz => kz _ _ ?_)
      refine normS [.hp (Hp.whole w), .box b2 [.slice a n c, .slice a' n' c'] 25, .box b35 [.string ⟨#[120]⟩, .slice none 0 0] 60, .box b5 [.slice ka (u + 7) kc, .slice (some ⟨b35, 0, none⟩) 1 1] 25, .hp kh, .hp hG, .hp oIh, .hp oYh, .hp oPh, .hp oOh, .hp hL, .box b21 [.slice pa 0 pc, .slice qa 0 qc, .slice ra 0 rc] 30, .hp hD] rfl ?_
      refine hideQ (fun q25 k25 => ?_)
      refine hideK 4 (fun _ k1 => ?_)
      refine nwEq (y := 0) (by rfl) (by decide) (by decide) ?_
      refine k1 _ _ ?_
      refine hideK 3 (fun _ k1 => ?_)
      refine nwEq (y := 0) (by rfl) (by decide) (by decide) ?_
      refine k1 _ _ ?_
      refine hideK 3 (fun _ k1 => ?_)
      refine nwEq (y := 0) (by rfl) (by decide) (by decide) ?_
      refine k1 _ _ ?_
      refine hideK 3 (fun _ k1 => ?_)
      refine nwEq (y := 0) (by rfl) (by decide) (by decide) ?_
      refine k1 _ _ ?_
      refine hideK 2 (fun _ k1 => ?_)
      refine nwEq (y := 0) (by rfl) (by decide) (by decide) ?_
      refine k1 _ _ ?_
      refine hideK 3 (fun _ k1 => ?_)
      refine nwEq (y := 0) (by rfl) (by decide) (by decide) ?_
      refine k1 _ _ ?_
      refine hideK 4 (fun _ k1 => ?_)
      refine nwEq (y := 0) (by rfl) (by decide) (by decide) ?_
      refine k1 _ _ ?_
      refine hideK 4 (fun _ k1 => ?_)
      refine nwEq (y := 0) (by rfl) (by decide) (by decide) ?_
      refine k1 _ _ ?_
      refine hideK 4 (fun _ k1 => ?_)
      refine nwEq (y := 0) (by rfl) (by decide) (by decide) ?_
      refine k1 _ _ ?_
      refine k25 _ _ ?_
      refine hideK 7 (fun _ k1 => ?_)
      refine callV (.int .i64 E) (fun w' hm => kC w' h7 (hT.mono encT_mono (hm 0 _ rfl)) (hS.mono encN_mono (hm 0 _ rfl))) ?_
      refine k1 _ _ ?_
      rw [decide_eq_true (rfl : E = E)]
      refine hideK 5 (fun _ k2 => ?_)
      refine k2 _ _ ?_
      rw [decide_eq_true (rfl : E = E)]
      refine hideK 5 (fun _ k3 => ?_)
      refine k3 _ _ ?_
      rw [decide_eq_true (rfl : E = E)]
      refine hideK 5 (fun _ k4 => ?_)
      refine k4 _ _ ?_
      rw [decide_eq_true (rfl : E = E)]
      refine hideK 5 (fun _ k5 => ?_)
      refine k5 _ _ ?_
      rw [decide_eq_true (rfl : E = E)]
      refine hideK 5 (fun _ k6 => ?_)
      refine k6 _ _ ?_
      rw [decide_eq_true (rfl : E = E)]
      refine hideK 5 (fun _ k7 => ?_)
      refine k7 _ _ ?_
      rw [decide_eq_true (rfl : E = E)]
      refine hideK 5 (fun _ k8 => ?_)
      refine k8 _ _ ?_
      rw [decide_eq_true (rfl : E = E)]
      refine hideK 7 (fun _ k9 => ?_)
      refine callV (.int .i64 E) (fun w' hm => kV w' h7 (hT.mono encT_mono (hm 0 _ rfl)) (hS.mono encN_mono (hm 0 _ rfl))) ?_
      refine k9 _ _ ?_
      rw [decide_eq_true (rfl : E = E)]
      exact ⟨[], ⟨rfl, rfl⟩, fun w' h => h.pick [0] rfl rfl⟩
    · have h4' : ¬ u + 7 > 8 := by omega
      rw [if_neg h4'] at hZ2
      subst hZ2
      obtain rfl : bn = u + 7 := by rw [lB]; exact hB3 h4'
      refine hideQ (fun _ kz => kz _ _ ?_)
      refine dfalse (fun h => h rfl) ?_
      refine callV (.int .i64 E) (fun w' hm => kW w' (hT.mono encT_mono (hm 0 _ rfl)) (hS.mono encN_mono (hm 0 _ rfl))) ?_
      refine bsplitd (fun h7 => ?_) (fun h7 => ?_)
      · exact ⟨[], ⟨rfl, rfl⟩, fun w' h => h.pick [0] rfl rfl⟩
      refine callV (.tuple #[.int .i64 0, .int .i64 E]) (fun w' hm => kM w' h7 (hT.mono encT_mono (hm 0 _ rfl)) (hS.mono encN_mono (hm 0 _ rfl))) ?_
      refine call (fun w' hm => kI w' h7 (hT.mono encT_mono (hm 0 _ rfl)) (hS.mono encN_mono (hm 0 _ rfl))) ?_
      rintro _ _ ⟨oIa, oIc, oIh, rfl, rfl⟩
      refine call (fun w' hm => kY w' h7 (hT.mono encT_mono (hm 0 _ rfl)) (hS.mono encN_mono (hm 0 _ rfl))) ?_
      rintro _ _ ⟨oYa, oYc, oYh, rfl, rfl⟩
      refine call (fun w' hm => kP w' h7 (hT.mono encT_mono (hm 0 _ rfl)) (hS.mono encN_mono (hm 0 _ rfl))) ?_
      rintro _ _ ⟨oPa, oPc, oPh, rfl, rfl⟩
      refine call (fun w' hm => kO w' h7 (hT.mono encT_mono (hm 0 _ rfl)) (hS.mono encN_mono (hm 0 _ rfl))) ?_
      rintro _ _ ⟨oOa, oOc, oOh, rfl, rfl⟩
      refine call (fun w' hm => kL w' h7 (hT.mono encT_mono (hm 0 _ rfl)) (hS.mono encN_mono (hm 0 _ rfl))) ?_
      rintro _ _ ⟨pa, pc, qa, qc, ra, rc, hL, rfl, rfl⟩
      intro b21
      refine hideQ (fun _ kz => kz _ _ ?_)
      refine normS [.hp (Hp.whole w), .box b2 [.slice a n c, .slice a' n' c'] 25, .box b35 [.string ⟨#[120]⟩, .slice none 0 0] 60, .box b5 [.slice ka (u + 7) kc, .slice (some ⟨b35, 0, none⟩) 1 1] 25, .hp kh, .hp hG, .hp oIh, .hp oYh, .hp oPh, .hp oOh, .hp hL, .box b21 [.slice pa 0 pc, .slice qa 0 qc, .slice ra 0 rc] 30] rfl ?_
      refine call (fun w' hm => kB w' h7 (hT.mono encT_mono (hm 0 _ rfl)) (hS.mono encN_mono (hm 0 _ rfl))) ?_
      rintro _ _ ⟨da, dc, hD, rfl, rfl⟩
      refine hideQ (fun _ kz => kz _ _ ?_)
      refine normS [.hp (Hp.whole w), .box b2 [.slice a n c, .slice a' n' c'] 25, .box b35 [.string ⟨#[120]⟩, .slice none 0 0] 60, .box b5 [.slice ka (u + 7) kc, .slice (some ⟨b35, 0, none⟩) 1 1] 25, .hp kh, .hp hG, .hp oIh, .hp oYh, .hp oPh, .hp oOh, .hp hL, .box b21 [.slice pa 0 pc, .slice qa 0 qc, .slice ra 0 rc] 30, .hp hD] rfl ?_
      refine hideQ (fun q25 k25 => ?_)
      refine hideK 4 (fun _ k1 => ?_)
      refine nwEq (y := 0) (by rfl) (by decide) (by decide) ?_
      refine k1 _ _ ?_
      refine hideK 3 (fun _ k1 => ?_)
      refine nwEq (y := 0) (by rfl) (by decide) (by decide) ?_
      refine k1 _ _ ?_
      refine hideK 3 (fun _ k1 => ?_)
      refine nwEq (y := 0) (by rfl) (by decide) (by decide) ?_
      refine k1 _ _ ?_
      refine hideK 3 (fun _ k1 => ?_)
      refine nwEq (y := 0) (by rfl) (by decide) (by decide) ?_
      refine k1 _ _ ?_
      refine hideK 2 (fun _ k1 => ?_)
      refine nwEq (y := 0) (by rfl) (by decide) (by decide) ?_
      refine k1 _ _ ?_
      refine hideK 3 (fun _ k1 => ?_)
      refine nwEq (y := 0) (by rfl) (by decide) (by decide) ?_
      refine k1 _ _ ?_
      refine hideK 4 (fun _ k1 => ?_)
      refine nwEq (y := 0) (by rfl) (by decide) (by decide) ?_
      refine k1 _ _ ?_
      refine hideK 4 (fun _ k1 => ?_)
      refine nwEq (y := 0) (by rfl) (by decide) (by decide) ?_
      refine k1 _ _ ?_
      refine hideK 4 (fun _ k1 => ?_)
      refine nwEq (y := 0) (by rfl) (by decide) (by decide) ?_
      refine k1 _ _ ?_
      refine k25 _ _ ?_
      refine hideK 7 (fun _ k1 => ?_)
      refine callV (.int .i64 E) (fun w' hm => kC w' h7 (hT.mono encT_mono (hm 0 _ rfl)) (hS.mono encN_mono (hm 0 _ rfl))) ?_
      refine k1 _ _ ?_
      rw [decide_eq_true (rfl : E = E)]
      refine hideK 5 (fun _ k2 => ?_)
      refine k2 _ _ ?_
      rw [decide_eq_true (rfl : E = E)]
      refine hideK 5 (fun _ k3 => ?_)
      refine k3 _ _ ?_
      rw [decide_eq_true (rfl : E = E)]
      refine hideK 5 (fun _ k4 => ?_)
      refine k4 _ _ ?_
      rw [decide_eq_true (rfl : E = E)]
      refine hideK 5 (fun _ k5 => ?_)
      refine k5 _ _ ?_
      rw [decide_eq_true (rfl : E = E)]
      refine hideK 5 (fun _ k6 => ?_)
      refine k6 _ _ ?_
      rw [decide_eq_true (rfl : E = E)]
      refine hideK 5 (fun _ k7 => ?_)
      refine k7 _ _ ?_
      rw [decide_eq_true (rfl : E = E)]
      refine hideK 5 (fun _ k8 => ?_)
      refine k8 _ _ ?_
      rw [decide_eq_true (rfl : E = E)]
      refine hideK 7 (fun _ k9 => ?_)
      refine callV (.int .i64 E) (fun w' hm => kV w' h7 (hT.mono encT_mono (hm 0 _ rfl)) (hS.mono encN_mono (hm 0 _ rfl))) ?_
      refine k9 _ _ ?_
      rw [decide_eq_true (rfl : E = E)]
      exact ⟨[], ⟨rfl, rfl⟩, fun w' h => h.pick [0] rfl rfl⟩
end
end Go.Proofs.YtnlkffccobdbjaaGreat
