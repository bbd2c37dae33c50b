/- Contract of the model of layer 50: best. Its premises are its own. -/
import Derived.Test.YtnlkffccobdbjaaGreatYY2
import Derived.Test.YtnlkffccobdbjaaGreatYXr
namespace Go.Dw
open Go Go.RowKit
theorem Hp.dj_sub {x y z : Hp} (h : x.le y) (d : y.dj z) : x.dj z := fun b => by
  cases hx : x b with
  | none => exact .inl rfl
  | some o =>
    rcases d b with g | g
    · rw [h b o hx] at g; cases g
    · exact .inr g
/-- two heaplets are seen as one from here on -/
theorem NeedF.join2 {P : Program} {s : List Ch} {f : Nat} {args : List Value} {q : TV → List Ch → Prop} {i j : Nat} (hij : i ≠ j) {x y : Hp} (hi : sget s i = some (.hp x)) (hj : sget s j = some (.hp y))
    (h : x.dj y → NeedF P (sset (sset s i (.hp (x.join y))) j (.hp Hp.emp)) f args q) : NeedF P s f args q := by
  have hj2 : sget (sset s i (.hp (x.join y))) j = some (.hp y) := by rw [sget_sset, if_neg hij]; exact hj
  have keep : Keep s (sset (sset s i (.hp (x.join y))) j (.hp Hp.emp)) := (Keep.set hi (fun b cs T e => by cases e)).trans (Keep.set hj2 (fun b cs T e => by cases e))
  refine ⟨fun w0 w hok => ?_⟩
  obtain ⟨h⟩ := h (hok.disj i j _ _ hij hi hj)
  obtain ⟨h1, h2⟩ := h w0 w (hok.join2 hij hi hj)
  refine ⟨h1, h2.mono fun e w' he => ?_⟩
  obtain ⟨v, s', rfl, g1, g2, g3⟩ := he
  exact ⟨v, s', rfl, g1, keep.trans g2, g3⟩
theorem Ok.split2 {w0 w : World} {s : List Ch} {i j : Nat} {x y : Hp} (hok : Ok w0 s w) (hij : i ≠ j) (hi : sget s i = some (.hp (x.join y))) (hj : sget s j = some (.hp Hp.emp)) (d : x.dj y) : Ok w0 (sset (sset s i (.hp x)) j (.hp y)) w := by
  have get : ∀ k c, sget (sset (sset s i (.hp x)) j (.hp y)) k = some c → (k = j ∧ c = .hp y) ∨ (k = i ∧ c = .hp x) ∨ (k ≠ i ∧ k ≠ j ∧ sget s k = some c) := fun k c h => by
    rw [sget_sset, sget_sset] at h
    by_cases h1 : j = k
    · subst h1
      rw [if_pos rfl, if_neg hij, hj] at h
      simp only [Option.map_some, Option.some.injEq] at h
      exact .inl ⟨rfl, h.symm⟩
    · rw [if_neg h1] at h
      by_cases h2 : i = k
      · subst h2
        rw [if_pos rfl, hi] at h
        simp only [Option.map_some, Option.some.injEq] at h
        exact .inr (.inl ⟨rfl, h.symm⟩)
      · rw [if_neg h2] at h
        exact .inr (.inr ⟨fun e => h2 e.symm, fun e => h1 e.symm, h⟩)
  have lx : x.le (x.join y) := Hp.le_join_l x y
  have ly : y.le (x.join y) := Hp.le_join_r d
  refine ⟨hok.os, hok.tape, hok.output, hok.size, hok.drawn, fun k c hc => ?_, fun k m c e hkm h1 h2 => ?_⟩
  · rcases get k c hc with ⟨_, rfl⟩ | ⟨_, rfl⟩ | ⟨_, _, h⟩
    · exact (hok.mem i _ hi).le ly
    · exact (hok.mem i _ hi).le lx
    · exact hok.mem k c h
  · rcases get k c h1 with ⟨e1, rfl⟩ | ⟨e1, rfl⟩ | ⟨n1, n2, g1⟩
    · rcases get m e h2 with ⟨e2, rfl⟩ | ⟨e2, rfl⟩ | ⟨m1, m2, g2⟩
      · exact absurd (e1.trans e2.symm) hkm
      · exact d.symm
      · exact Hp.dj_sub ly (hok.disj i m _ _ (Ne.symm m1) hi g2)
    · rcases get m e h2 with ⟨e2, rfl⟩ | ⟨e2, rfl⟩ | ⟨m1, m2, g2⟩
      · exact d
      · exact absurd (e1.trans e2.symm) hkm
      · exact Hp.dj_sub lx (hok.disj i m _ _ (Ne.symm m1) hi g2)
    · rcases get m e h2 with ⟨e2, rfl⟩ | ⟨e2, rfl⟩ | ⟨m1, m2, g2⟩
      · exact (Hp.dj_sub ly (hok.disj i k _ _ (Ne.symm n1) hi g1)).symm
      · exact (Hp.dj_sub lx (hok.disj i k _ _ (Ne.symm n1) hi g1)).symm
      · exact hok.disj k m c e hkm g1 g2
/-- a heaplet is seen as two behind the call -/
theorem NeedF.split2 {P : Program} {s : List Ch} {f : Nat} {args : List Value} {q : TV → List Ch → Prop}
    (h : NeedF P s f args fun tv s1 => ∃ i j x y, i ≠ j ∧ sget s1 i = some (.hp (Hp.join x y)) ∧ Hp.dj x y ∧ sget s1 j = some (.hp Hp.emp) ∧ q tv (sset (sset s1 i (.hp x)) j (.hp y))) : NeedF P s f args q := by
  obtain ⟨h⟩ := h
  refine ⟨fun w0 w hok => ?_⟩
  obtain ⟨h1, h2⟩ := h w0 w hok
  refine ⟨h1, h2.mono fun e w' he => ?_⟩
  obtain ⟨v, s', rfl, g1, g2, i, j, x, y, hij, hi, d, hj, g3⟩ := he
  have hj2 : sget (sset s' i (.hp x)) j = some (.hp Hp.emp) := by rw [sget_sset, if_neg hij]; exact hj
  have keep : Keep s' (sset (sset s' i (.hp x)) j (.hp y)) := (Keep.set hi (fun b cs T e => by cases e)).trans (Keep.set hj2 (fun b cs T e => by cases e))
  exact ⟨v, _, rfl, g1.split2 hij hi hj d, g2.trans keep, g3⟩
end Go.Dw
namespace Go.Proofs.YtnlkffccobdbjaaGreat
open Go Go.RowKit Go.Dw
theorem fmx_take {F : List Int} {k : Nat} (hk : k < F.length) : fmx (F.take (k + 1)) = max (fmx (F.take k)) F[k] := by
  unfold fmx
  rw [List.take_succ_eq_append_getElem hk, List.foldl_append]; rfl
section
variable {a a' : Option Addr} {n c n' c' : Nat} {TT : List Tk} {SS : List Sn} {b1 b3 b4 b5 b6 b7 : Nat} {ja da fa : Option Addr} {jn jc dn dc fn fc : Nat}
/-- the closure of the search -/
abbrev tryV (b1 b6 b3 b5 b4 b7 : Nat) : Value := .func (.func 70) ⟨[]⟩ ⟨[.pointer (some ⟨b1, 0, none⟩), .pointer (some ⟨b6, 0, none⟩), .pointer (some ⟨b3, 0, none⟩), .pointer (some ⟨b5, 0, none⟩), .pointer (some ⟨b4, 0, none⟩), .pointer (some ⟨b7, 0, none⟩)]⟩
/-- what the search reads -/
structure TryR (a a' : Option Addr) (n c n' c' : Nat) (TT : List Tk) (SS : List Sn) (b1 b3 b4 b5 b6 b7 : Nat) (ja da fa : Option Addr) (jn jc dn dc fn fc : Nat) (h : Hp) : Prop where
  s : Bx h b1 [.slice a n c, .slice a' n' c']
  f : Bx h b6 [.slice fa fn fc]
  d : Bx h b5 [.slice da dn dc]
  j : Bx h b4 [.slice ja jn jc]
  t : Bx h b7 [tryV b1 b6 b3 b5 b4 b7]
  T : Sl encT 4 h a n c TT
  S : Sl encN 2 h a' n' c' SS
theorem TryR.mono {h k : Hp} (r : TryR a a' n c n' c' TT SS b1 b3 b4 b5 b6 b7 ja da fa jn jc dn dc fn fc h) (l : h.le k) : TryR a a' n c n' c' TT SS b1 b3 b4 b5 b6 b7 ja da fa jn jc dn dc fn fc k :=
  ⟨r.s.mono l, r.f.mono l, r.d.mono l, r.j.mono l, r.t.mono l, r.T.mono encT_mono l, r.S.mono encN_mono l⟩
/-- what the search leaves -/
def TryE (TT : List Tk) (SS : List Sn) (b3 : Nat) (ja da fa : Option Addr) (jn jc dn dc fn fc : Nat) (A : List Nat) (s : SSt) (V : Int → Prop) (v : Value) (cs' : List Value) (G' : Hp) : Prop :=
  v = .tuple #[] ∧ ∃ (l : Int) (s' : SSt) (hJ hD hF : Hp), cs' = [.int .i64 l] ∧ G' = (hJ.join hD).join hF ∧ hJ.dj hD ∧ hJ.dj hF ∧ hD.dj hF ∧ Agr A s s' ∧
    OwnO fJ 52 3 ⟨ja, jn, jc, hJ⟩ s'.1 ∧ OwnO fB 4 1 ⟨da, dn, dc, hD⟩ s'.2.1 ∧ OwnO fI 3 1 ⟨fa, fn, fc, hF⟩ s'.2.2 ∧ LeP V l
theorem best2_spec {D : List Bool} {x : Int} (w : World) (hd : Bx (Hp.whole w) b5 [.slice da dn dc]) (hD : Sl (encF fB) 1 (Hp.whole w) da dn dc D) (h0 : 0 ≤ x) (hx : x.toNat < D.length) :
    CallsE Tryz.prog 71 #[.int .i64 x, .pointer (some ⟨b5, 0, none⟩)] w (RetV w (.bool (!(D.getD x.toNat false)))) := by
  rw [gD hx]
  refine enter (X := cx 9) (cxg _) (args := [.int .i64 x, .pointer (some ⟨b5, 0, none⟩)]) [.tmp 3] Tryz.func71 rfl rfl rfl rfl rfl ?_
  refine ld1 (cxg _) (i := 0) rfl (hd 0 _ rfl) rfl ?_
  refine idx (cxg _) (e := 4) rfl hD x.toNat (by omega) hx (fun b o cs hcs hR hcell => ?_)
  subst hR
  refine ld1 (cxg _) (i := 0) rfl (hcell 0 _ rfl) rfl ?_
  exact ⟨[], ⟨rfl, rfl⟩, fun w' h => h⟩
set_option maxHeartbeats 2000000 in
set_option maxRecDepth 10000 in
theorem try_spec (hs : Sml TT SS) (hE : shopE TT SS = 0) : ∀ (m : Nat) (s : SSt) (A : List Nat) (V : Int → Prop) (l : Int) (hJ hD hF : Hp) (w : World),
    Par TT SS s A → A.length + m = TT.length → LeP V l → ((hJ.join hD).join hF) b3 = none → hJ.dj hD → hJ.dj hF → hD.dj hF → ((Ch.box b3 [.int .i64 l] 3).h.join ((hJ.join hD).join hF)).In w →
    TryR a a' n c n' c' TT SS b1 b3 b4 b5 b6 b7 ja da fa jn jc dn dc fn fc ((Hp.whole w).minus ((Ch.box b3 [.int .i64 l] 3).h.join ((hJ.join hD).join hF))) →
    OwnO fJ 52 3 ⟨ja, jn, jc, hJ⟩ s.1 → OwnO fB 4 1 ⟨da, dn, dc, hD⟩ s.2.1 → OwnO fI 3 1 ⟨fa, fn, fc, hF⟩ s.2.2 →
    CallsE Tryz.prog 70 #[.int .i64 (A.length : Nat), .pointer (some ⟨b1, 0, none⟩), .pointer (some ⟨b6, 0, none⟩), .pointer (some ⟨b3, 0, none⟩), .pointer (some ⟨b5, 0, none⟩), .pointer (some ⟨b4, 0, none⟩), .pointer (some ⟨b7, 0, none⟩)] w
      (RetM w ((Ch.box b3 [.int .i64 l] 3).h.join ((hJ.join hD).join hF)) fun v h' cs2 => cs2 = [] ∧ ∃ cs' G', h' = (Ch.box b3 cs' 3).h.join G' ∧ G' b3 = none ∧ TryE TT SS b3 ja da fa jn jc dn dc fn fc A s (fun v => V v ∨ vlS TT SS m s v) v cs' G') := by
  have hF0 := fit_of hs hE
  have hN := hF0.n
  have hM := (shop_ok hE).2.1
  intro m
  induction m with
  | zero =>
    intro s A V l hJ hD hF w hP hA hV hb3 d1 d2 d3 hin hR hoJ hoD hoF
    have lT := hR.T.len
    have d := one_dj (o := .cells [.int .i64 l].toArray 3 (0, 0)) hb3
    have dd : (hJ.join hD).dj hF := (Hp.dj_both d2.symm d3.symm).symm
    have ok0' := Ok.part (i := 1) (Ok.start2 w hin) rfl (Hp.le_join_l _ _) (Hp.le_join_r d) d
    obtain ⟨c0, hc0⟩ : ∃ c0, c0 = (Hp.whole w).minus ((Ch.box b3 [.int .i64 l] 3).h.join ((hJ.join hD).join hF)) := ⟨_, rfl⟩
    rw [← hc0] at hR ok0'
    have ok0 : Ok w [.hp c0, .box b3 [.int .i64 l] 3, .hp ((hJ.join hD).join hF)] w := ok0'.reh rfl
    have ok1 : Ok w [.hp c0, .box b3 [.int .i64 l] 3, .hp hJ, .hp hF, .hp hD] w := Ok.part (i := 2) (Ok.part (i := 2) ok0 rfl (Hp.le_join_l (hJ.join hD) hF) (Hp.le_join_r dd) dd) rfl (Hp.le_join_l hJ hD) (Hp.le_join_r d1) d1
    have sF := OwnO.sl (f := fI) (fun _ => rfl) (by decide) hoF
    have lF := sF.len
    have hfl := hP.fl
    refine enterMS (X := cx 140) (cxg _) (args := [.int .i64 (A.length : Nat), .pointer (some ⟨b1, 0, none⟩), .pointer (some ⟨b6, 0, none⟩), .pointer (some ⟨b3, 0, none⟩), .pointer (some ⟨b5, 0, none⟩), .pointer (some ⟨b4, 0, none⟩), .pointer (some ⟨b7, 0, none⟩)]) ok1 [] Tryz.func70 rfl rfl rfl rfl rfl ?_
    refine ld1 (cxg _) (i := 0) rfl (hR.s 0 _ rfl) rfl ?_
    refine bsplitd (fun _ => ?_) (fun h => absurd (by omega) h)
    refine ld1 (cxg _) (i := 0) rfl (hR.f 0 _ rfl) rfl ?_
    refine NeedL.mk (Nat × Int) (fun g => [(3, .v (.pointer (some ⟨b3, 0, none⟩))), (8, .v (.int .i64 g.2)), (22, .v (.slice fa fn fc)), (23, .v (.int .i64 fn)), (24, .v (.int .i64 g.1))]) (fun _ => [.hp c0, .box b3 [.int .i64 l] 3, .hp hJ, .hp hF, .hp hD])
      (fun g => g.1 ≤ fn ∧ g.2 = fmx (s.2.2.take g.1)) (fun g => fn - g.1) (0, 0) ⟨Nat.zero_le _, rfl⟩ (Ent.mk (fun _ _ h => h) rfl rfl) ?_
    rintro ⟨k, e⟩ ⟨hk, he⟩
    dsimp only at *
    refine bsplitd (fun h1 => ?_) (fun h1 => ?_)
    · have hkF : k < s.2.2.length := by omega
      have hst := fmx_take hkF
      refine idx (cxg _) (e := 3) rfl sF k rfl hkF (fun b9 o9 cs hcs hR2 hcell => ?_)
      subst hR2
      refine ld1 (cxg _) (i := 3) rfl (hcell 0 _ rfl) rfl ?_
      refine qMax ?_
      refine nw (by omega) (by omega) ?_
      exact ⟨(k + 1, max e s.2.2[k]), ⟨by dsimp only; omega, by dsimp only; rw [hst, he]⟩, by dsimp only; omega, Ent.mk (fun _ _ h => h) rfl rfl⟩
    · rw [List.take_of_length_le (by omega)] at he
      have he0 : 0 ≤ e := by rw [he]; exact (fmx_max _).1
      have hadd := hV.add he0
      have hcong : LeP (fun v => V v ∨ vlS TT SS 0 s v) (if (decide (l < 0) || decide (e < l)) = true then e else l) := hadd.congr fun v => by
        show (V v ∨ v = e) ↔ (V v ∨ v = fmx s.2.2)
        rw [he]
      clear hadd
      have fin : ∀ l' : Int, LeP (fun v => V v ∨ vlS TT SS 0 s v) l' → ∃ h' cs, (cs = [] ∧ ∃ cs' G', h' = (Ch.box b3 cs' 3).h.join G' ∧ G' b3 = none ∧ TryE TT SS b3 ja da fa jn jc dn dc fn fc A s (fun v => V v ∨ vlS TT SS 0 s v) (.tuple #[]) cs' G') ∧
          ∀ w', Ok w [.hp c0, .box b3 [.int .i64 l'] 3, .hp hJ, .hp hF, .hp hD] w' → Ok w (.hp ((Hp.whole w).minus ((Ch.box b3 [.int .i64 l] 3).h.join ((hJ.join hD).join hF))) :: .hp h' :: cs) w' := fun l' hl' => by
        refine ⟨(Ch.box b3 [.int .i64 l'] 3).h.join ((hJ.join hD).join hF), [], ⟨rfl, _, _, rfl, hb3, rfl, l', s, hJ, hD, hF, rfl, rfl, d1, d2, d3, Agr.refl A s, hoJ, hoD, hoF, hl'⟩, fun w' h => ?_⟩
        rw [← hc0]
        have e1 := Ok.join (c := .hp c0) (d := .hp hJ) (e := .hp hD) (s := [.hp hF, .box b3 [.int .i64 l'] 3]) (h.pick [0, 2, 4, 3, 1] rfl rfl)
        have e2 := Ok.join (c := .hp c0) (d := .hp (hJ.join hD)) (e := .hp hF) (s := [.box b3 [.int .i64 l'] 3]) e1
        exact Ok.join (c := .hp c0) (d := .box b3 [.int .i64 l'] 3) (e := .hp ((hJ.join hD).join hF)) (s := []) (e2.pick [0, 2, 1] rfl rfl)
      refine ldB (cxg _) (i := 1) rfl (j := 0) rfl rfl ?_
      refine bsplitd (fun h2 => ?_) (fun h2 => ?_)
      · rw [decide_eq_true h2, Bool.true_or, if_pos rfl] at hcong
        refine stB (cxg _) (i := 1) rfl (j := 0) (v := .int .i64 e) rfl rfl (by simp) rfl rfl ?_
        exact fin e hcong
      · refine ldB (cxg _) (i := 1) rfl (j := 0) rfl rfl ?_
        rw [decide_eq_false h2, Bool.false_or] at hcong
        refine bsplitd (fun h3 => ?_) (fun h3 => ?_)
        · rw [decide_eq_true h3, if_pos rfl] at hcong
          refine stB (cxg _) (i := 1) rfl (j := 0) (v := .int .i64 e) rfl rfl (by simp) rfl rfl ?_
          exact fin e hcong
        · rw [decide_eq_false h3, if_neg (by decide)] at hcong
          exact fin l hcong
  | succ m ih =>
    intro s A V l hJ hD hF w hP hA hV hb3 d1 d2 d3 hin hR hoJ hoD hoF
    have lT := hR.T.len
    have lS := hR.S.len
    have d := one_dj (o := .cells [.int .i64 l].toArray 3 (0, 0)) hb3
    have dd : (hJ.join hD).dj hF := (Hp.dj_both d2.symm d3.symm).symm
    have ok0' := Ok.part (i := 1) (Ok.start2 w hin) rfl (Hp.le_join_l _ _) (Hp.le_join_r d) d
    obtain ⟨c0, hc0⟩ : ∃ c0, c0 = (Hp.whole w).minus ((Ch.box b3 [.int .i64 l] 3).h.join ((hJ.join hD).join hF)) := ⟨_, rfl⟩
    rw [← hc0] at hR ok0'
    have ok0 : Ok w [.hp c0, .box b3 [.int .i64 l] 3, .hp ((hJ.join hD).join hF)] w := ok0'.reh rfl
    have ok1 : Ok w [.hp c0, .box b3 [.int .i64 l] 3, .hp hJ, .hp hF, .hp hD] w := Ok.part (i := 2) (Ok.part (i := 2) ok0 rfl (Hp.le_join_l (hJ.join hD) hF) (Hp.le_join_r dd) dd) rfl (Hp.le_join_l hJ hD) (Hp.le_join_r d1) d1
    have hjl := hP.jl
    have hfl := hP.fl
    have hdl : s.2.1.length = TT.length := by rw [hP.dl, dnL_len]
    clear d dd ok0' ok0 hb3 d1 d2 d3 hin
    obtain ⟨W, hW⟩ : ∃ W : Nat → Int → Prop, W = fun i v => V v ∨ ∃ i' k, i' < i ∧ k < SS.length ∧ opnF TT s.2.1 i' = true ∧ caA TT SS i' k = true ∧ vlS TT SS m (jbS TT s i' k) v := ⟨_, rfl⟩
    have hW0 : ∀ v, V v ↔ W 0 v := fun v => by
      rw [hW]
      exact ⟨.inl, fun h => h.elim id fun ⟨i', _, h, _⟩ => absurd h (Nat.not_lt_zero i')⟩
    have hWN : ∀ v, W TT.length v ↔ (V v ∨ vlS TT SS (m + 1) s v) := fun v => by rw [hW]; rfl
    have hWskip : ∀ i, opnF TT s.2.1 i = false → ∀ v, W i v ↔ W (i + 1) v := fun i ho v => by
      rw [hW]
      refine or_congr Iff.rfl ⟨fun ⟨i', k, g1, g2⟩ => ⟨i', k, by omega, g2⟩, fun ⟨i', k, g1, g2, g3, g4⟩ => ⟨i', k, ?_, g2, g3, g4⟩⟩
      have : i' ≠ i := fun e => by subst e; rw [ho] at g3; cases g3
      omega
    have hWstep : ∀ i, opnF TT s.2.1 i = true → ∀ v, (W i v ∨ ∃ k, k < SS.length ∧ caA TT SS i k = true ∧ vlS TT SS m (jbS TT s i k) v) ↔ W (i + 1) v := fun i ho v => by
      rw [hW]
      constructor
      · rintro ((h | ⟨i', k, g1, g2⟩) | ⟨k, g2, g3, g4⟩)
        · exact .inl h
        · exact .inr ⟨i', k, by omega, g2⟩
        · exact .inr ⟨i, k, by omega, g2, ho, g3, g4⟩
      · rintro (h | ⟨i', k, g1, g2, g3, g4, g5⟩)
        · exact .inl (.inl h)
        · by_cases hi : i' = i
          · subst hi; exact .inr ⟨k, g2, g4, g5⟩
          · exact .inl (.inr ⟨i', k, by omega, g2, g3, g4, g5⟩)
    refine enterMS (X := cx 140) (cxg _) (args := [.int .i64 (A.length : Nat), .pointer (some ⟨b1, 0, none⟩), .pointer (some ⟨b6, 0, none⟩), .pointer (some ⟨b3, 0, none⟩), .pointer (some ⟨b5, 0, none⟩), .pointer (some ⟨b4, 0, none⟩), .pointer (some ⟨b7, 0, none⟩)]) ok1 [] Tryz.func70 rfl rfl rfl rfl rfl ?_
    refine ld1 (cxg _) (i := 0) rfl (hR.s 0 _ rfl) rfl ?_
    refine bsplitd (fun h => absurd h (by omega)) (fun _ => ?_)
    refine ld1 (cxg _) (i := 0) rfl (hR.s 0 _ rfl) rfl ?_
    refine NeedL.mkS (Nat × Int × List Jb × Hp × Hp × Hp) (fun g => [(0, .v (.int .i64 (A.length : Nat))), (1, .v (.pointer (some ⟨b1, 0, none⟩))), (2, .v (.pointer (some ⟨b6, 0, none⟩))), (4, .v (.pointer (some ⟨b5, 0, none⟩))), (5, .v (.pointer (some ⟨b4, 0, none⟩))), (6, .v (.pointer (some ⟨b7, 0, none⟩))), (42, .v (.int .i64 n)), (43, .v (.int .i64 g.1))])
      (fun g => [.hp c0, .box b3 [.int .i64 g.2.1] 3, .hp g.2.2.2.1, .hp g.2.2.2.2.2, .hp g.2.2.2.2.1])
      (fun g => g.1 ≤ n ∧ LeP (W g.1) g.2.1 ∧ Agr A s (g.2.2.1, s.2.1, s.2.2) ∧ OwnO fJ 52 3 ⟨ja, jn, jc, g.2.2.2.1⟩ g.2.2.1 ∧ OwnO fB 4 1 ⟨da, dn, dc, g.2.2.2.2.1⟩ s.2.1 ∧ OwnO fI 3 1 ⟨fa, fn, fc, g.2.2.2.2.2⟩ s.2.2) (fun g => n - g.1)
      (0, l, s.1, hJ, hD, hF) ⟨Nat.zero_le _, hV.congr hW0, ⟨rfl, rfl, rfl, fun _ _ => rfl⟩, hoJ, hoD, hoF⟩ (Ent.mk (fun _ _ h => h) rfl rfl) ?_
    clear hoJ hoD hoF hV
    rintro ⟨i, l, J, hJ, hD, hF⟩ ⟨hi, hLe, hAg, hoJ, hoD, hoF⟩ hsat
    dsimp only at *
    refine bsplitd (fun h3 => ?_) (fun h3 => ?_)
    · have hiT : i < TT.length := by omega
      have hiD : i < s.2.1.length := by omega
      have hJl : J.length = TT.length := hAg.l.trans hjl
      have sJ := OwnO.sl (f := fJ) (fun _ => rfl) (by decide) hoJ
      have sD := OwnO.sl (f := fB) (fun _ => rfl) (by decide) hoD
      have sF := OwnO.sl (f := fI) (fun _ => rfl) (by decide) hoF
      obtain ⟨t, ht⟩ : ∃ t, t = TT[i] := ⟨_, rfl⟩
      have htm : t ∈ TT := by rw [ht]; exact List.getElem_mem hiT
      have haf : afA TT i = t.af := by unfold afA; rw [tk_get hiT, ← ht]
      have hal := hF0.al t htm
      have har := hF0.ar t htm
      obtain ⟨x, hx⟩ : ∃ x, x = s.2.1[i] := ⟨_, rfl⟩
      obtain ⟨y, hy⟩ : ∃ y, y = t.af.any fun k => !(s.2.1.getD k.toNat false) := ⟨_, rfl⟩
      have ho : opnF TT s.2.1 i = (!x && !y) := by unfold opnF; rw [gD hiD, tk_get hiT, ← ht, ← hx, ← hy]
      refine ld1 (cxg _) (i := 0) rfl (hR.d 0 _ rfl) rfl ?_
      refine idx (cxg _) (e := 4) rfl sD i rfl hiD (fun b9 o9 cs hcs hR7 hcell7 => ?_)
      rw [← hx] at hR7
      subst hR7
      refine ld1 (cxg _) (i := 4) rfl (hcell7 0 _ rfl) rfl ?_
      refine bsplit (fun h4 => ?_) (fun h4 => ?_)
      · refine nw (by omega) (by omega) ?_
        exact ⟨(i + 1, l, J, hJ, hD, hF), ⟨by dsimp only; omega, hLe.congr (hWskip i (by rw [ho, h4]; rfl)), hAg, hoJ, hoD, hoF⟩, by dsimp only; omega, Ent.mk (fun _ _ h => h) rfl rfl⟩
      refine ld1 (cxg _) (i := 0) rfl (hR.s 0 _ rfl) rfl ?_
      refine idx (cxg _) (e := 64) rfl hR.T i rfl hiT (fun b9 o9 cs hcs hR9 hcell9 => ?_)
      rw [← ht] at hR9
      obtain ⟨a3, n3, c3, rfl, hs3⟩ := hR9
      have l3 := hs3.len
      refine ld1 (cxg _) (i := 0) rfl (hcell9 3 _ rfl) rfl ?_
      have kC : ∀ w' : World, Sl (encF fI) 1 (Hp.whole w') a3 n3 c3 t.af → Bx (Hp.whole w') b5 [.slice da dn dc] → Sl (encF fB) 1 (Hp.whole w') da dn dc s.2.1 →
          CallsE Tryz.prog 60 #[.slice a3 n3 c3, .func (.func 71) ⟨[]⟩ ⟨[.pointer (some ⟨b5, 0, none⟩)]⟩] w' (RetV w' (.bool y)) := fun w' h1 h2 h3 => by
        rw [hy]
        refine containsFuncIntsL_spec 71 [.pointer (some ⟨b5, 0, none⟩)] (fun k => !(s.2.1.getD k.toNat false)) w' h1 (by omega) (fun w2 g z hz => ?_)
        have := har z hz
        exact best2_spec w2 (h2.mono g.whole) (h3.mono (encF_mono _) g.whole) this.1 (by omega)
      refine callV (.bool y) (fun w' hm => kC w' (hs3.mono (encF_mono _) (hm 0 _ rfl)) (hR.d.mono (hm 0 _ rfl)) (sD.mono (encF_mono _) (hm 4 _ rfl))) ?_
      clear kC
      refine bsplit (fun h5 => ?_) (fun h5 => ?_)
      · refine nw (by omega) (by omega) ?_
        exact ⟨(i + 1, l, J, hJ, hD, hF), ⟨by dsimp only; omega, hLe.congr (hWskip i (by rw [ho, h5]; simp)), hAg, hoJ, hoD, hoF⟩, by dsimp only; omega, Ent.mk (fun _ _ h => h) rfl rfl⟩
      have hop : opnF TT s.2.1 i = true := by rw [ho, h4, h5]; rfl
      have hxf : s.2.1[i] = false := by rw [← hx]; exact h4
      have hWst := hWstep i hop
      clear h4 h5 hy ho hWskip hWstep hcell7
      obtain ⟨hiA, hafA⟩ := (hP.opn hF0 hiT).1 hop
      have hPJ := hP.agr hAg
      have hrd : rdyJ TT J i = t.af.foldl (fun t k => max t (endF TT (J.getD k.toNat (0, 0, 0)))) 0 := by unfold rdyJ; rw [tk_get hiT, ← ht]
      have hrs : ∀ k, staF TT J s.2.2 i k = t0A TT s i k := fun k => hAg.t0 (TT := TT) (i := i) (k := k) hafA
      rw [haf] at hafA
      have hb0 : ∀ x ∈ t.af, (J.getD x.toNat (0, 0, 0)).1 = x.toNat ∧ 0 ≤ (J.getD x.toNat (0, 0, 0)).2.2 ∧ (J.getD x.toNat (0, 0, 0)).2.2 ≤ 100000000 := fun x hx => by
        have h1 := hPJ.tk _ (hafA x hx)
        have h2 := hPJ.s0 _ (hafA x hx)
        have h3 := hF0.d (hPJ.lt _ (hafA x hx))
        unfold stA at h2
        unfold jbA at h1 h2
        dsimp only at h1 h2
        exact ⟨h1, h2.1, by omega⟩
      refine ld1 (cxg _) (i := 0) rfl (hR.s 0 _ rfl) rfl ?_
      refine idx (cxg _) (e := 64) rfl hR.T i rfl hiT (fun b9 o9 cs hcs hR11 hcell11 => ?_)
      rw [← ht] at hR11
      clear hs3 l3 hcell9
      obtain ⟨a3, n3, c3, rfl, hs3⟩ := hR11
      have l3 := hs3.len
      refine ld1 (cxg _) (i := 0) rfl (hcell11 3 _ rfl) rfl ?_
      refine NeedL.mk (Nat × Int) (fun g => [(0, .v (.int .i64 (A.length : Nat))), (1, .v (.pointer (some ⟨b1, 0, none⟩))), (2, .v (.pointer (some ⟨b6, 0, none⟩))), (4, .v (.pointer (some ⟨b5, 0, none⟩))), (5, .v (.pointer (some ⟨b4, 0, none⟩))), (6, .v (.pointer (some ⟨b7, 0, none⟩))), (11, .v (.int .i64 i)), (12, .v (.int .i64 g.2)), (42, .v (.int .i64 n)), (43, .v (.int .i64 i)), (65, .v (.slice a3 n3 c3)), (66, .v (.int .i64 n3)), (67, .v (.int .i64 g.1))])
        (fun _ => [.hp c0, .box b3 [.int .i64 l] 3, .hp hJ, .hp hF, .hp hD])
        (fun g => g.1 ≤ n3 ∧ g.2 = (t.af.take g.1).foldl (fun t k => max t (endF TT (J.getD k.toNat (0, 0, 0)))) 0 ∧ 0 ≤ g.2 ∧ g.2 ≤ 1000000000) (fun g => n3 - g.1) (0, 0) ⟨Nat.zero_le _, rfl, Int.le_refl _, by decide⟩ (Ent.mk (fun _ _ h => h) rfl rfl) ?_
      rintro ⟨q, mx⟩ ⟨hq, hmx, hmx0, hmx1⟩
      dsimp only at *
      refine bsplitd (fun h6 => ?_) (fun h6 => ?_)
      · have hqt : q < t.af.length := by omega
        obtain ⟨x, hx⟩ : ∃ x, x = t.af[q] := ⟨_, rfl⟩
        have hxm : x ∈ t.af := by rw [hx]; exact List.getElem_mem hqt
        have hxr := har x hxm
        obtain ⟨v, rfl⟩ : ∃ v : Nat, x = v := ⟨x.toNat, by omega⟩
        have hv : v < TT.length := by omega
        have hvJ : v < J.length := by omega
        have hbx := hb0 _ hxm
        rw [Int.toNat_natCast, gD hvJ] at hbx
        obtain ⟨j, hj⟩ : ∃ j, j = J[v] := ⟨_, rfl⟩
        rw [← hj] at hbx
        obtain ⟨j1, j2, j3⟩ := j
        dsimp only at hbx
        obtain ⟨rfl, hj30, hj31⟩ := hbx
        obtain ⟨u, hu⟩ : ∃ u, u = TT[v] := ⟨_, rfl⟩
        have hdu := hF0.du u (by rw [hu]; exact List.getElem_mem hv)
        have hst2 : max mx (j3 + u.du) = (t.af.take (q + 1)).foldl (fun t k => max t (endF TT (J.getD k.toNat (0, 0, 0)))) 0 := by
          rw [List.take_succ_eq_append_getElem hqt, List.foldl_append, ← hmx, ← hx]
          show max mx (j3 + u.du) = max mx (endF TT (J.getD v (0, 0, 0)))
          rw [gD hvJ, ← hj]
          unfold endF
          dsimp only
          rw [Int.toNat_natCast, tk_get hv, ← hu]
        refine idx (cxg _) (e := 3) rfl hs3 q rfl hqt (fun b9 o9 cs hcs hR13 hcell13 => ?_)
        subst hR13
        rw [← hx] at hcell13
        refine ld1 (cxg _) (i := 0) rfl (hcell13 0 _ rfl) rfl ?_
        refine NeedD.by_order (cxg _) (.take 0 <| .take 1 <| .take 2 <| .take 3 <| .take 4 <| .take 5 <| .take 6 <| .take 7 <| .take 8 <| .take 9 <| .take 10 <| .take 11 <| .take 12 <| .run 13 <| .take 14 <| .done) (by kernel_rfl) ?_
        refine ld1 (cxg _) (i := 0) rfl (hR.j 0 _ rfl) rfl ?_
        refine idx (cxg _) (e := 52) rfl sJ v rfl hvJ (fun b9 o9 cs hcs hR14 hcell14 => ?_)
        rw [← hj] at hR14
        subst hR14
        refine ld1 (cxg _) (i := 2) rfl (hcell14 2 _ rfl) rfl ?_
        refine ld1 (cxg _) (i := 0) rfl (hR.s 0 _ rfl) rfl ?_
        refine idx (cxg _) (e := 64) rfl hR.T v rfl hv (fun b9 o9 cs hcs hR15 hcell15 => ?_)
        rw [← hu] at hR15
        obtain ⟨a4, n4, c4, rfl, hs4⟩ := hR15
        refine ld1 (cxg _) (i := 0) rfl (hcell15 1 _ rfl) rfl ?_
        refine nw (by dsimp only; omega) (by dsimp only; omega) ?_
        refine qMax ?_
        refine ⟨(by repeat first | exact trivial | refine ⟨.inl rfl, ?_⟩ | refine ⟨.inr rfl, ?_⟩), ?_⟩
        refine nw (by omega) (by omega) ?_
        exact ⟨(q + 1, max mx (j3 + u.du)), ⟨by dsimp only; omega, hst2, by dsimp only; omega, by dsimp only; omega⟩, by dsimp only; omega, Ent.mk (fun _ _ h => h) rfl rfl⟩
      rw [List.take_of_length_le (by omega), ← hrd] at hmx
      have hsta0 : ∀ k (hk : k < s.2.2.length), t0A TT s i k = max s.2.2[k] mx := fun k hk => by rw [← hrs k]; unfold staF; rw [gD hk, ← hmx]
      clear hrd hq h6 hmx hb0 hs3 hcell11 sJ sD sF
      obtain ⟨U, hU⟩ : ∃ U : Nat → Int → Prop, U = fun k v => W i v ∨ ∃ k', k' < k ∧ caA TT SS i k' = true ∧ vlS TT SS m (jbS TT s i k') v := ⟨_, rfl⟩
      have hU0 : ∀ v, W i v ↔ U 0 v := fun v => by
        rw [hU]
        exact ⟨.inl, fun h => h.elim id fun ⟨k', h, _⟩ => absurd h (Nat.not_lt_zero k')⟩
      have hUN : ∀ v, U SS.length v ↔ W (i + 1) v := fun v => by rw [← hWst v, hU]
      have hUskip : ∀ k, caA TT SS i k = false → ∀ v, U k v ↔ U (k + 1) v := fun k hc v => by
        rw [hU]
        refine or_congr Iff.rfl ⟨fun ⟨k', g1, g2⟩ => ⟨k', by omega, g2⟩, fun ⟨k', g1, g2, g3⟩ => ⟨k', ?_, g2, g3⟩⟩
        have : k' ≠ k := fun e => by subst e; rw [hc] at g2; cases g2
        omega
      have hUstep : ∀ k, caA TT SS i k = true → ∀ v, (U k v ∨ vlS TT SS m (jbS TT s i k) v) ↔ U (k + 1) v := fun k hc v => by
        rw [hU]
        constructor
        · rintro ((h | ⟨k', g1, g2⟩) | h)
          · exact .inl h
          · exact .inr ⟨k', by omega, g2⟩
          · exact .inr ⟨k, by omega, hc, h⟩
        · rintro (h | ⟨k', g1, g2, g3⟩)
          · exact .inl (.inl h)
          · by_cases hk : k' = k
            · subst hk; exact .inr g3
            · exact .inl (.inr ⟨k', by omega, g2, g3⟩)
      clear hWst hWN hW0
      refine ld1 (cxg _) (i := 0) rfl (hR.d 0 _ rfl) rfl ?_
      refine oidx1 (cxg _) (e := 4) rfl rfl hoD i rfl hiD fun bz hbz => ?_
      refine osto (g := fun x : Bool => .bool x) (fun _ => rfl) (cxg _) (i := 4) rfl hbz hoD hiD rfl rfl true rfl rfl rfl fun o3 f1 f2 f3 ho3 => ?_
      obtain ⟨da, dn, dc, hD⟩ := o3
      simp only at f1 f2 f3
      subst f1 f2 f3
      clear hoD hbz
      refine ld1 (cxg _) (i := 0) rfl (hR.s 1 _ rfl) rfl ?_
      refine NeedL.mkS (Nat × Int × List Jb × Hp × Hp × Hp) (fun g => [(0, .v (.int .i64 (A.length : Nat))), (1, .v (.pointer (some ⟨b1, 0, none⟩))), (2, .v (.pointer (some ⟨b6, 0, none⟩))), (4, .v (.pointer (some ⟨b5, 0, none⟩))), (5, .v (.pointer (some ⟨b4, 0, none⟩))), (6, .v (.pointer (some ⟨b7, 0, none⟩))), (11, .v (.int .i64 i)), (12, .v (.int .i64 mx)), (42, .v (.int .i64 n)), (43, .v (.int .i64 i)), (91, .v (.int .i64 n')), (92, .v (.int .i64 g.1))])
        (fun g => [.hp c0, .box b3 [.int .i64 g.2.1] 3, .hp g.2.2.2.1, .hp g.2.2.2.2.2, .hp g.2.2.2.2.1])
        (fun g => g.1 ≤ n' ∧ LeP (U g.1) g.2.1 ∧ Agr A s (g.2.2.1, s.2.1, s.2.2) ∧ OwnO fJ 52 3 ⟨ja, jn, jc, g.2.2.2.1⟩ g.2.2.1 ∧ OwnO fB 4 1 ⟨da, dn, dc, g.2.2.2.2.1⟩ (s.2.1.set i true) ∧ OwnO fI 3 1 ⟨fa, fn, fc, g.2.2.2.2.2⟩ s.2.2) (fun g => n' - g.1)
        (0, l, J, hJ, hD, hF) ⟨Nat.zero_le _, hLe.congr hU0, hAg, hoJ, ho3, hoF⟩ (Ent.mk (fun _ _ h => h) rfl rfl) ?_
      clear hoJ ho3 hoF hLe hAg hsat hPJ hrs hJl
      rintro ⟨k, l, J, hJ, hD, hF⟩ ⟨hk, hLe, hAg, hoJ, hoD, hoF⟩ hsat
      dsimp only at *
      refine bsplitd (fun h7 => ?_) (fun h7 => ?_)
      · have hkS : k < SS.length := by omega
        have hkF : k < s.2.2.length := by omega
        obtain ⟨ca, hca⟩ : ∃ ca, ca = caA TT SS i k := ⟨_, rfl⟩
        have kA : ∀ w' : World, Sl encT 4 (Hp.whole w') a n c TT → Sl encN 2 (Hp.whole w') a' n' c' SS → CallsE Tryz.prog 69 #[sv a n c a' n' c', .int .i64 i, .int .i64 k] w' (RetV w' (.bool ca)) := fun w' h1 h2 => by
          rw [hca]; exact able50_spec i k w' h1 h2 hs hiT hkS
        refine ldn (cxg _) (i := 0) rfl hR.s rfl ?_
        refine callV (.bool ca) (fun w' hm => kA w' (hR.T.mono encT_mono (hm 0 _ rfl)) (hR.S.mono encN_mono (hm 0 _ rfl))) ?_
        clear kA
        refine bsplit (fun h8 => ?_) (fun h8 => ?_)
        · have hct : caA TT SS i k = true := by rw [← hca]; exact h8
          have hJl : J.length = TT.length := hAg.l.trans hjl
          have hiJ : i < J.length := by omega
          have hPJ := hP.agr hAg
          have sF := OwnO.sl (f := fI) (fun _ => rfl) (by decide) hoF
          obtain ⟨t1, t2, t3, -⟩ := hP.t0 hF0 hiT hkS hop
          obtain ⟨y1, hy1⟩ : ∃ y1, y1 = s.2.2[k] := ⟨_, rfl⟩
          obtain ⟨st, hst0⟩ : ∃ st, st = t0A TT s i k := ⟨_, rfl⟩
          have hq1 : max y1 mx = st := by rw [hst0, hy1]; exact (hsta0 k hkF).symm
          rw [← hst0] at t2 t3
          have hst1 : staF TT J s.2.2 i k = st := by rw [hst0]; exact hAg.t0 (TT := TT) (i := i) (k := k) (by rw [haf]; exact hafA)
          clear hst0
          subst hq1
          have hdu := hF0.du t htm
          have hend : endF TT ((i : Int), (k : Int), (max y1 mx)) = (max y1 mx) + t.du := by unfold endF; dsimp only; rw [Int.toNat_natCast, tk_get hiT, ← ht]
          have hpJ : putJ TT J s.2.2 i k = J.set i ((i : Int), (k : Int), (max y1 mx)) := by unfold putJ; rw [hst1]
          have hpF : putF TT J s.2.2 i k = s.2.2.set k ((max y1 mx) + t.du) := by unfold putF; rw [hst1, hend]
          have hset : (J.set i ((i : Int), (k : Int), (max y1 mx)))[i]'(by rw [List.length_set]; exact hiJ) = ((i : Int), (k : Int), (max y1 mx)) := by simp
          refine ld1 (cxg _) (i := 0) rfl (hR.f 0 _ rfl) rfl ?_
          refine idx (cxg _) (e := 3) rfl sF k rfl hkF (fun b9 o9 cs hcs hR19 hcell19 => ?_)
          rw [← hy1] at hR19
          subst hR19
          refine ld1 (cxg _) (i := 3) rfl (hcell19 0 _ rfl) rfl ?_
          refine ld1 (cxg _) (i := 0) rfl (hR.j 0 _ rfl) rfl ?_
          refine qMax ?_
          refine oidxN (cxg _) (e := 52) rfl (o := ⟨ja, jn, jc, hJ⟩) hoJ i rfl hiJ fun b8 hb8 => ?_
          refine ostoN (f := fJ) (cxg _) (sz := 3) (fun _ => rfl) (i := 2) rfl hb8 hoJ hiJ rfl rfl ((i : Int), (k : Int), (max y1 mx)) rfl rfl rfl fun o2 f1 f2 f3 ho2 => ?_
          obtain ⟨ja, jn, jc, hJ2⟩ := o2
          simp only at f1 f2 f3
          subst f1 f2 f3
          have sJ2 := OwnO.sl (f := fJ) (fun _ => rfl) (by decide) ho2
          clear hoJ hb8
          refine NeedD.by_order0 (cxg _) (.take 0 <| .take 1 <| .take 2 <| .take 3 <| .take 4 <| .take 5 <| .take 6 <| .take 7 <| .take 8 <| .take 9 <| .take 10 <| .take 11 <| .take 12 <| .take 13 <| .take 14 <| .run 15 <| .done) (by kernel_rfl) (subL_blank _ 3) ?_
          refine ld1 (cxg _) (i := 0) rfl (hR.f 0 _ rfl) rfl ?_
          refine ld1 (cxg _) (i := 0) rfl (hR.j 0 _ rfl) rfl ?_
          refine idx (cxg _) (e := 52) rfl sJ2 i rfl (by rw [List.length_set]; exact hiJ) (fun b9 o9 cs hcs hR21 hcell21 => ?_)
          rw [hset] at hR21
          subst hR21
          refine ld1 (cxg _) (i := 2) rfl (hcell21 2 _ rfl) rfl ?_
          refine ld1 (cxg _) (i := 0) rfl (hR.s 0 _ rfl) rfl ?_
          refine idx (cxg _) (e := 64) rfl hR.T i rfl hiT (fun b9 o9 cs hcs hR22 hcell22 => ?_)
          rw [← ht] at hR22
          obtain ⟨a4, n4, c4, rfl, hs4⟩ := hR22
          refine ld1 (cxg _) (i := 0) rfl (hcell22 1 _ rfl) rfl ?_
          refine nw (by dsimp only; omega) (by dsimp only; omega) ?_
          refine oidx1 (cxg _) (e := 3) rfl rfl hoF k rfl hkF fun bw hbw => ?_
          refine osto (g := fun x : Int => .int .i64 x) (fun _ => rfl) (cxg _) (i := 3) rfl hbw hoF hkF rfl rfl ((max y1 mx) + t.du) rfl rfl rfl fun o4 f1 f2 f3 ho4 => ?_
          obtain ⟨fa, fn, fc, hF2⟩ := o4
          simp only at f1 f2 f3
          subst f1 f2 f3
          clear hoF hbw sF sJ2 hset
          have hPst := hPJ.step hF0 hiT hkS hop hct
          have hAs := Agr.step (k := k) hF0 hP hAg hiT hop
          have hlen2 : (A ++ [i]).length + m = TT.length := by simp; omega
          refine ld1 (cxg _) (i := 0) rfl (hR.t 0 _ rfl) rfl ?_
          refine nwEq (y := ((A ++ [i]).length : Nat)) (by simp) (by omega) (by omega) ?_
          refine NeedF.split2 (NeedF.split2 (NeedF.join2 (i := 2) (j := 4) (by decide) rfl rfl fun e1 => NeedF.join2 (i := 2) (j := 3) (by decide) rfl rfl fun e2 => callMX (i := 1) (j := 2) (by decide) rfl rfl (R := TryE TT SS b3 ja da fa jn jc dn dc fn fc (A ++ [i]) (jbS TT (J, s.2.1, s.2.2) i k) (fun v => U k v ∨ vlS TT SS m (jbS TT (J, s.2.1, s.2.2) i k) v)) (fun w0 w1 hok => ?_) ?_))
          · have e3 : hJ2.dj hF2 := Hp.dj_sub (Hp.le_join_l hJ2 hD) e2
            have e4 : hD.dj hF2 := Hp.dj_sub (Hp.le_join_r e1) e2
            exact ih (jbS TT (J, s.2.1, s.2.2) i k) (A ++ [i]) (U k) l hJ2 hD hF2 w1 hPst hlen2 hLe (dj_one (hok.disj 1 2 _ _ (by decide) rfl rfl)) e1 e3 e4 (Hp.both_In (hok.mem 1 _ rfl) (hok.mem 2 _ rfl)) (hR.mono (Hp.le_minus (hok.mem 0 _ rfl).whole (Hp.dj_both (hok.disj 0 1 _ _ (by decide) rfl rfl) (hok.disj 0 2 _ _ (by decide) rfl rfl)))) (by show OwnO _ _ _ _ (putJ TT J s.2.2 i k); rw [hpJ]; exact ho2) hoD (by show OwnO _ _ _ _ (putF TT J s.2.2 i k); rw [hpF]; exact ho4)
          · rintro _ cs' G' hGb' ⟨rfl, l', s', hJ3, hD3, hF3, rfl, rfl, e5, e6, e7, hAg', hoJ3, hoD3, hoF3, hLe'⟩
            refine ⟨2, 3, hJ3.join hD3, hF3, by decide, rfl, (Hp.dj_both e6.symm e7.symm).symm, rfl, 2, 4, hJ3, hD3, by decide, rfl, e5, rfl, ?_⟩
            have hD' : s'.2.1 = s.2.1.set i true := hAg'.d
            have hF' : s'.2.2 = s.2.2.set k ((max y1 mx) + t.du) := by rw [hAg'.f]; exact hpF
            rw [hD'] at hoD3
            rw [hF'] at hoF3
            have hkF3 : k < (s.2.2.set k ((max y1 mx) + t.du)).length := by rw [List.length_set]; exact hkF
            refine ld1 (cxg _) (i := 0) rfl (hR.f 0 _ rfl) rfl ?_
            refine oidx1 (cxg _) (e := 3) rfl rfl hoF3 k rfl hkF3 fun bw hbw => ?_
            refine osto (g := fun x : Int => .int .i64 x) (fun _ => rfl) (cxg _) (i := 3) rfl hbw hoF3 hkF3 rfl rfl y1 rfl rfl rfl fun o6 f1 f2 f3 ho6 => ?_
            obtain ⟨fa, fn, fc, hF4⟩ := o6
            simp only at f1 f2 f3
            subst f1 f2 f3
            rw [List.set_set, hy1, List.set_getElem_self] at ho6
            refine nw (by omega) (by omega) ?_
            refine ⟨(k + 1, l', s'.1, hJ3, hD3, hF4), ⟨by dsimp only; omega, ?_, ⟨rfl, rfl, ?_, fun b hb => ?_⟩, hoJ3, hoD3, ho6⟩, by dsimp only; omega, Ent.mk (fun _ _ h => h) rfl rfl⟩
            · exact hLe'.congr fun v => by rw [← hUstep k hct v, vl_iff hF0 (hP.step hF0 hiT hkS hop hct) hAs]
            · show s'.1.length = s.1.length
              rw [hAg'.l, hjl]
              exact (hPst.jl)
            · have hbi : b ≠ i := fun e => hiA (by rw [← e]; exact hb)
              show jbA s'.1 b = jbA s.1 b
              rw [hAg'.j b (List.mem_append_left _ hb), (stp_other (TT := TT) (s := (J, s.2.1, s.2.2)) (k := k) hJl hiT hbi).2.2]
              exact hAg.j b hb
        · refine nw (by omega) (by omega) ?_
          exact ⟨(k + 1, l, J, hJ, hD, hF), ⟨by dsimp only; omega, hLe.congr (hUskip k (by rw [← hca]; exact h8)), hAg, hoJ, hoD, hoF⟩, by dsimp only; omega, Ent.mk (fun _ _ h => h) rfl rfl⟩
      · have hkn : k = SS.length := by omega
        subst hkn
        have hiD2 : i < (s.2.1.set i true).length := by rw [List.length_set]; exact hiD
        refine ld1 (cxg _) (i := 0) rfl (hR.d 0 _ rfl) rfl ?_
        refine oidx1 (cxg _) (e := 4) rfl rfl hoD i rfl hiD2 fun bz hbz => ?_
        refine osto (g := fun x : Bool => .bool x) (fun _ => rfl) (cxg _) (i := 4) rfl hbz hoD hiD2 rfl rfl false rfl rfl rfl fun o3 f1 f2 f3 ho3 => ?_
        obtain ⟨da, dn, dc, hD⟩ := o3
        simp only at f1 f2 f3
        subst f1 f2 f3
        have hback : (s.2.1.set i true).set i false = s.2.1 := by rw [List.set_set, ← hxf, List.set_getElem_self]
        rw [hback] at ho3
        refine nw (by omega) (by omega) ?_
        exact ⟨(i + 1, l, J, hJ, hD, hF), ⟨by dsimp only; omega, hLe.congr hUN, hAg, hoJ, ho3, hoF⟩, by dsimp only; omega, Ent.mk (fun _ _ h => h) rfl rfl⟩
    · have hin2 : i = TT.length := by omega
      subst hin2
      have d1 : hJ.dj hD := hsat.dj 2 4 rfl rfl (by decide)
      have d2 : hJ.dj hF := hsat.dj 2 3 rfl rfl (by decide)
      have d3 : hD.dj hF := hsat.dj 4 3 rfl rfl (by decide)
      have g1 : hJ b3 = none := dj_one (hsat.dj 1 2 rfl rfl (by decide))
      have g2 : hD b3 = none := dj_one (hsat.dj 1 4 rfl rfl (by decide))
      have g3 : hF b3 = none := dj_one (hsat.dj 1 3 rfl rfl (by decide))
      refine ⟨(Ch.box b3 [.int .i64 l] 3).h.join ((hJ.join hD).join hF), [], ⟨rfl, _, _, rfl, join_none (join_none g1 g2) g3, rfl, l, (J, s.2.1, s.2.2), hJ, hD, hF, rfl, rfl, d1, d2, d3, hAg, hoJ, hoD, hoF, hLe.congr hWN⟩, fun w' h => ?_⟩
      rw [← hc0]
      have e1 := Ok.join (c := .hp c0) (d := .hp hJ) (e := .hp hD) (s := [.hp hF, .box b3 [.int .i64 l] 3]) (h.pick [0, 2, 4, 3, 1] rfl rfl)
      have e2 := Ok.join (c := .hp c0) (d := .hp (hJ.join hD)) (e := .hp hF) (s := [.box b3 [.int .i64 l] 3]) e1
      exact Ok.join (c := .hp c0) (d := .box b3 [.int .i64 l] 3) (e := .hp ((hJ.join hD).join hF)) (s := []) (e2.pick [0, 2, 1] rfl rfl)
set_option maxHeartbeats 1000000 in
set_option maxRecDepth 10000 in
theorem best50_spec (w : World) (hT : Sl encT 4 (Hp.whole w) a n c TT) (hS : Sl encN 2 (Hp.whole w) a' n' c' SS) (hs : Sml TT SS) (hE : shopE TT SS = 0) :
    CallsE Tryz.prog 22 #[sv a n c a' n' c'] w (Ret w fun v cs => ∃ l : Int, v = .int .i64 l ∧ cs = [] ∧ LeP (vlS TT SS TT.length (begS TT SS)) l) := by
  have lT := hT.len
  have lS := hS.len
  have hF0 := fit_of hs hE
  have hN := hF0.n
  have hM := (shop_ok hE).2.1
  refine enter (X := cx 24) (cxg _) (args := [.agg #[.slice a n c, .slice a' n' c']]) [.tmp 2] Tryz.func22 rfl rfl rfl rfl rfl ?_
  intro b1
  intro b3
  refine hideQ (fun _ kz => kz _ _ ?_)
  refine normS [.hp (Hp.whole w), .box b1 [.slice a n c, .slice a' n' c'] 25, .box b3 [.int .i64 (-1)] 3] rfl ?_
  refine mkO (f := fJ) (cxg _) (e := 52) rfl TT.length (0, 0, 0) rfl (by omega) (by omega) rfl (by omega) fun oJ hoJn hoJ => ?_
  obtain ⟨ja, jn, jc, hJ⟩ := oJ
  dsimp only at hoJn hoJ
  intro b4
  refine hideQ (fun _ kz => kz _ _ ?_)
  refine normS [.hp (Hp.whole w), .box b1 [.slice a n c, .slice a' n' c'] 25, .box b3 [.int .i64 (-1)] 3, .hp hJ, .box b4 [.slice ja jn jc] 38] rfl ?_
  refine mkO (f := fB) (cxg _) (e := 4) rfl TT.length false rfl (by omega) (by omega) rfl (by omega) fun oD hoDn hoD => ?_
  obtain ⟨da, dn, dc, hD⟩ := oD
  dsimp only at hoDn hoD
  intro b5
  refine hideQ (fun _ kz => kz _ _ ?_)
  refine normS [.hp (Hp.whole w), .box b1 [.slice a n c, .slice a' n' c'] 25, .box b3 [.int .i64 (-1)] 3, .hp hJ, .box b4 [.slice ja jn jc] 38, .hp hD, .box b5 [.slice da dn dc] 99] rfl ?_
  refine mkO (f := fI) (cxg _) (e := 3) rfl SS.length 0 rfl (by omega) (by omega) rfl (by omega) fun oF hoFn hoF => ?_
  obtain ⟨fa, fn, fc, hF⟩ := oF
  dsimp only at hoFn hoF
  intro b6
  refine hideQ (fun _ kz => kz _ _ ?_)
  refine normS [.hp (Hp.whole w), .box b1 [.slice a n c, .slice a' n' c'] 25, .box b3 [.int .i64 (-1)] 3, .hp hJ, .box b4 [.slice ja jn jc] 38, .hp hD, .box b5 [.slice da dn dc] 99, .hp hF, .box b6 [.slice fa fn fc] 28] rfl ?_
  intro b7
  refine hideQ (fun _ kz => kz _ _ ?_)
  refine hideQ (fun _ kz => kz _ _ ?_)
  refine normS [.hp (Hp.whole w), .box b1 [.slice a n c, .slice a' n' c'] 25, .box b3 [.int .i64 (-1)] 3, .hp hJ, .box b4 [.slice ja jn jc] 38, .hp hD, .box b5 [.slice da dn dc] 99, .hp hF, .box b6 [.slice fa fn fc] 28, .box b7 [tryV b1 b6 b3 b5 b4 b7] 107] rfl ?_
  refine NeedF.join2 (i := 3) (j := 5) (by decide) rfl rfl fun e1 => NeedF.join2 (i := 3) (j := 7) (by decide) rfl rfl fun e2 => callMX (i := 2) (j := 3) (by decide) rfl rfl (R := TryE TT SS b3 ja da fa jn jc dn dc fn fc [] (begS TT SS) (fun v => False ∨ vlS TT SS TT.length (begS TT SS) v)) (fun w0 w1 hok => ?_) ?_
  · have e3 : hJ.dj hF := Hp.dj_sub (Hp.le_join_l hJ hD) e2
    have e4 : hD.dj hF := Hp.dj_sub (Hp.le_join_r e1) e2
    have le := fun {i : Nat} {cc : Ch} (hi : sget _ i = some cc) (h2 : i ≠ 2) (h3 : i ≠ 3) => Hp.le_minus (hok.mem i cc hi).whole (Hp.dj_both (hok.disj i 2 cc _ h2 hi rfl) (hok.disj i 3 cc _ h3 hi rfl))
    have bx := fun {i b T : Nat} {cs : List Value} (hi : sget _ i = some (.box b cs T)) (h2 : i ≠ 2) (h3 : i ≠ 3) => (fun j v e => (le hi h2 h3).cell (by rw [Nat.zero_add]; simp [Ch.h, Hp.cell?, Hp.one, e]) : Bx _ b cs)
    exact try_spec hs hE TT.length (begS TT SS) [] (fun _ => False) (-1) hJ hD hF w1 begS_par (by simp) (.inl ⟨rfl, fun _ h => h⟩) (dj_one (hok.disj 2 3 _ _ (by decide) rfl rfl)) e1 e3 e4 (Hp.both_In (hok.mem 2 _ rfl) (hok.mem 3 _ rfl))
      ⟨bx (i := 1) rfl (by decide) (by decide), bx (i := 8) rfl (by decide) (by decide), bx (i := 6) rfl (by decide) (by decide), bx (i := 4) rfl (by decide) (by decide), bx (i := 9) rfl (by decide) (by decide), hT.mono encT_mono (le (i := 0) rfl (by decide) (by decide)), hS.mono encN_mono (le (i := 0) rfl (by decide) (by decide))⟩ hoJ hoD hoF
  · rintro _ cs' G' hGb' ⟨rfl, l, s', hJ3, hD3, hF3, rfl, rfl, -, -, -, -, -, -, -, hLe⟩
    exact ⟨[], ⟨l, rfl, rfl, hLe.congr fun v => ⟨fun h => h.elim False.elim id, .inr⟩⟩, fun w' h => h.pick [0] rfl rfl⟩
end
end Go.Proofs.YtnlkffccobdbjaaGreat
