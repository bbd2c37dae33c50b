/- Contracts of schedule.heads, shared, only, distinct. Their premises are their own. -/
import Derived.Test.YtnlkffccobdbjaaGreatYWr
namespace Go.Dw
open Go Go.RowKit
section
variable {P : Program} {s : List Ch} {ty : Nat} {q : TV → Prop}
theorem qQuoM (a b d : Nat) {x y : Int} (hx : x = a) (hy : y = b) (hb : 0 < b) (ha : a < 9223372036854775808) (hd : d = a / b) (h : q (.v (.int .i64 d))) : NeedQ P s (binOp .quo ty (.int .i64 x) (.int .i64 y)) q := by
  subst hx hy
  refine ⟨_, fun w _ => ?_, h⟩
  have h0 : ¬ b = 0 := by omega
  have hd' : d < 9223372036854775808 := by rw [hd]; exact Nat.lt_of_le_of_lt (Nat.div_le_self a b) ha
  have hw : IntKind.i64.wrap (d : Int) = d := by rw [IntKind.wrap_i64]; omega
  rw [hd, Int.natCast_ediv] at hw
  rw [hd]
  simp [binOp, Op.intDiv, h0]
  exact hw
theorem qMinI {tys : Array TypeId} {ty : Nat} {x y : Int} {q : TV → List Ch → Prop} (h : q (.v (.int .i64 (min x y))) s) : NeedE P s (Builtin.min_ tys ty #[.int .i64 x, .int .i64 y]) q := by
  refine ⟨fun w0 w hok => ⟨_, _, w, s, ?_, hok, Keep.refl s, rfl, h⟩⟩
  simp [Builtin.min_, Builtin.min2, Int.min_def]
  split <;> split <;> (try rfl) <;> (congr 1; omega)
end
end Go.Dw
namespace Go.Proofs.YtnlkffccobdbjaaGreat
open Go Go.RowKit Go.Dw
/-! ### heads -/
def hdA (TT : List Tk) (i : Nat) (H : List Int) (k : Int) : List Int := H.set i (max (H.getD i 0) (H.getD k.toNat 0 + duA TT k.toNat))
def hdS (TT : List Tk) (H : List Int) (i : Nat) : List Int := (afA TT i).foldl (hdA TT i) H
def headF (TT : List Tk) : List Int := (ordF TT).foldl (hdS TT) (List.replicate TT.length 0)
def rsS (TT : List Tk) (R : List Int) (i : Nat) : List Int := R.set i ((tailsF TT).getD i 0 - duA TT i)
def restF (TT : List Tk) : List Int := (ordF TT).foldl (rsS TT) (List.replicate TT.length 0)
theorem Bd.hdA {TT : List Tk} (hF : Fit TT) {H : List Int} {m : Int} (h : Bd TT.length H m) {i : Nat} (hi : i < TT.length) {k : Int} (hk : 0 ≤ k ∧ k < TT.length) : Bd TT.length (hdA TT i H k) (m + 1048576) :=
  (h.up (by omega)).set hi (by
    have := h.2 i hi
    have := h.2 k.toNat (by omega)
    have := hF.d (i := k.toNat) (by omega)
    omega)
theorem Bd.hdF {TT : List Tk} (hF : Fit TT) {i : Nat} (hi : i < TT.length) : ∀ (A : List Int) {H : List Int} {m : Int}, Bd TT.length H m → (∀ k ∈ A, 0 ≤ k ∧ k < (TT.length : Int)) → Bd TT.length (A.foldl (Go.Proofs.YtnlkffccobdbjaaGreat.hdA TT i) H) (m + 1048576 * A.length)
  | [], _, _, h, _ => by simpa using h
  | k :: A, H, m, h, hA => by
    have := Bd.hdF hF hi A (h.hdA hF hi (hA k (by simp))) fun x hx => hA x (by simp [hx])
    refine Bd.up this ?_
    simp only [List.length_cons]; omega
theorem Bd.hdS {TT : List Tk} (hF : Fit TT) {H : List Int} {m : Int} (h : Bd TT.length H m) {i : Nat} (hi : i < TT.length) : Bd TT.length (hdS TT H i) (m + 1048576000) := by
  have hl : (afA TT i).length < 1000 := by unfold afA; rw [tk_get hi]; exact hF.al _ (List.getElem_mem hi)
  exact Bd.up (Bd.hdF hF hi (afA TT i) h (hF.a hi)) (by omega)
/-- rests lie in these bounds -/
def Rb (N : Nat) (R : List Int) : Prop := R.length = N ∧ ∀ i, i < N → -1048576 ≤ R.getD i 0 ∧ R.getD i 0 ≤ 1048576 * 24
theorem tl_rng {TT : List Tk} (hF : Fit TT) {i : Nat} (hi : i < TT.length) : 0 ≤ (tailsF TT).getD i 0 ∧ (tailsF TT).getD i 0 ≤ 1048576 * 24 := by
  have hl := tails_len hF
  refine ⟨((Bd.all hF (L := (ordF TT).reverse) (Bd.zero TT.length) fun x hx => ordF_lt x (List.mem_reverse.1 hx)).2 i hi).1, ?_⟩
  rw [gD (by omega)]
  exact tails_le hF _ (List.getElem_mem _)
theorem Rb.set {TT : List Tk} (hF : Fit TT) {R : List Int} (h : Rb TT.length R) {i : Nat} (hi : i < TT.length) : Rb TT.length (rsS TT R i) := by
  refine ⟨by unfold rsS; rw [List.length_set]; exact h.1, fun j hj => ?_⟩
  unfold rsS
  rw [gSet (by rw [h.1]; exact hi)]
  split
  · have := tl_rng hF hi
    have := hF.d hi
    omega
  · exact h.2 j hj
theorem Rb.zero (N : Nat) : Rb N (List.replicate N 0) := ⟨List.length_replicate, fun i hi => by rw [gD (by rw [List.length_replicate]; exact hi)]; simp⟩
theorem Bd.hds {TT : List Tk} (hF : Fit TT) : ∀ {L : List Nat} {H : List Int} {m : Int}, Bd TT.length H m → (∀ i ∈ L, i < TT.length) → Bd TT.length (L.foldl (Go.Proofs.YtnlkffccobdbjaaGreat.hdS TT) H) (m + 1048576000 * L.length)
  | [], _, _, h, _ => by simpa using h
  | i :: L, H, m, h, hL => by
    have := Bd.hds hF (L := L) (h.hdS hF (hL i (by simp))) fun x hx => hL x (by simp [hx])
    refine Bd.up this ?_
    simp only [List.length_cons]; omega
theorem Rb.all {TT : List Tk} (hF : Fit TT) : ∀ {L : List Nat} {R : List Int}, Rb TT.length R → (∀ i ∈ L, i < TT.length) → Rb TT.length (L.foldl (rsS TT) R)
  | [], _, h, _ => h
  | i :: L, R, h, hL => Rb.all hF (L := L) (h.set hF (hL i (by simp))) fun x hx => hL x (by simp [hx])
theorem head_bd {TT : List Tk} (hF : Fit TT) : Bd TT.length (headF TT) (1048576000 * 24) := by
  have := Bd.hds hF (L := ordF TT) (Bd.zero TT.length) ordF_lt
  refine Bd.up this ?_
  have := ordF_le TT
  have := hF.n
  omega
theorem rest_rb {TT : List Tk} (hF : Fit TT) : Rb TT.length (restF TT) := Rb.all hF (L := ordF TT) (Rb.zero _) ordF_lt
section
variable {a a' : Option Addr} {n c n' c' : Nat} {TT : List Tk} {SS : List Sn}
set_option maxRecDepth 10000 in
theorem heads_spec (w : World) (hT : Sl encT 4 (Hp.whole w) a n c TT) (hS : Sl encN 2 (Hp.whole w) a' n' c' SS) (hs : Sml TT SS) (hE : shopE TT SS = 0) :
    CallsE Tryz.prog 49 #[sv a n c a' n' c'] w (Ret w fun v cs => ∃ oH oR : Dw.Os, v = .tuple #[oH.v, oR.v] ∧ cs = [.hp oH.h, .hp oR.h] ∧ OwnO fI 3 1 oH (headF TT) ∧ OwnO fI 3 1 oR (restF TT)) := by
  have lT := hT.len
  have hF := fit_of hs hE
  have hN := hF.n
  refine enter (X := cx 84) (cxg _) (args := [.agg #[.slice a n c, .slice a' n' c']]) [.tmp 2, .tmp 3] Tryz.func49 rfl rfl rfl rfl rfl ?_
  intro b1
  refine call (fun w' hm => tOrder_spec w' (hT.mono encT_mono (hm 0 _ rfl)) (hS.mono encN_mono (hm 0 _ rfl)) hs) ?_
  rintro _ _ ⟨oO, rfl, rfl, hoO⟩
  refine call (fun w' hm => tTails_spec w' (hT.mono encT_mono (hm 0 _ rfl)) (hS.mono encN_mono (hm 0 _ rfl)) hs) ?_
  rintro _ _ ⟨oT, rfl, rfl, hoT⟩
  rw [show ordTR TT SS = natL (ordF TT) by unfold ordTR; rw [if_pos hE]] at hoO
  rw [show taiR TT SS = tailsF TT by unfold taiR; rw [if_pos hE]] at hoT
  have sO := OwnO.sl (f := fI) (fun _ => rfl) (by decide) hoO
  have sT := OwnO.sl (f := fI) (fun _ => rfl) (by decide) hoT
  have lO := hoO.len
  have lOl : (natL (ordF TT)).length = (ordF TT).length := by unfold natL; simp
  have lTl := tails_len hF
  have hOle := ordF_le TT
  refine NeedD.cut (Dw.Os × Dw.Os) (fun g => [(1, .bx 1 0), (2, .v g.1.v), (3, .v g.2.v), (4, .v oO.v), (6, .v oT.v)]) (fun g => [.hp (Hp.whole w), .box b1 [.slice a n c, .slice a' n' c'] 25, .hp oO.h, .hp oT.h, .hp g.1.h, .hp g.2.h])
    (fun g => OwnO fI 3 1 g.1 (List.replicate TT.length 0) ∧ OwnO fI 3 1 g.2 (List.replicate TT.length 0)) (NeedD.by_order (cxg _) (.take 0 <| .take 1 <| .take 2 <| .take 4 <| .take 5 <| .take 6 <| .two 3 (.take 8 <| .run 7 <| .take 9 <| .done) 7 (.run 3 <| .take 8 <| .take 9 <| .done)) (by kernel_rfl) ?_) ?_
  · constructor
    · refine mkO (f := fI) (cxg _) (e := 3) rfl TT.length 0 rfl (by omega) (by omega) rfl (by omega) fun o21 ho21n ho21 => ?_
      refine ⟨(by repeat first | exact trivial | refine ⟨.inl rfl, ?_⟩ | refine ⟨.inr rfl, ?_⟩), ?_⟩
      refine mkO (f := fI) (cxg _) (e := 3) rfl TT.length 0 rfl (by omega) (by omega) rfl (by omega) fun o25 ho25n ho25 => ?_
      refine ⟨(by repeat first | exact trivial | refine ⟨.inl rfl, ?_⟩ | refine ⟨.inr rfl, ?_⟩), ?_⟩
      exact ⟨(o21, o25), ⟨ho21, ho25⟩, Ent.mk (fun _ _ h => h) rfl rfl⟩
    · refine mkO (f := fI) (cxg _) (e := 3) rfl TT.length 0 rfl (by omega) (by omega) rfl (by omega) fun o25 ho25n ho25 => ?_
      refine ⟨(by repeat first | exact trivial | refine ⟨.inl rfl, ?_⟩ | refine ⟨.inr rfl, ?_⟩), ?_⟩
      refine mkO (f := fI) (cxg _) (e := 3) rfl TT.length 0 rfl (by omega) (by omega) rfl (by omega) fun o21 ho21n ho21 => ?_
      refine ⟨(by repeat first | exact trivial | refine ⟨.inl rfl, ?_⟩ | refine ⟨.inr rfl, ?_⟩), ?_⟩
      exact ⟨(o21, o25), ⟨ho21, ho25⟩, Ent.mk (fun _ _ h => h.pick [0, 1, 2, 3, 5, 4] rfl rfl) rfl rfl⟩
  rintro ⟨oH, oR⟩ ⟨hoH, hoR⟩ _
  dsimp only at hoH hoR ⊢
  obtain ⟨PH, hPH⟩ : ∃ PH : Nat → List Int, PH = fun m => ((ordF TT).take m).foldl (hdS TT) (List.replicate TT.length 0) := ⟨_, rfl⟩
  obtain ⟨PR, hPR⟩ : ∃ PR : Nat → List Int, PR = fun m => ((ordF TT).take m).foldl (rsS TT) (List.replicate TT.length 0) := ⟨_, rfl⟩
  have hH0 : PH 0 = List.replicate TT.length 0 := by rw [hPH]; rfl
  have hR0 : PR 0 = List.replicate TT.length 0 := by rw [hPR]; rfl
  have hHe : PH (ordF TT).length = headF TT := by rw [hPH]; dsimp only; rw [List.take_length]; rfl
  have hRe : PR (ordF TT).length = restF TT := by rw [hPR]; dsimp only; rw [List.take_length]; rfl
  have hHs : ∀ m (hm : m < (ordF TT).length), PH (m + 1) = hdS TT (PH m) (ordF TT)[m] := fun m hm => by
    rw [hPH]; dsimp only; rw [List.take_succ_eq_append_getElem hm, List.foldl_append]; rfl
  have hRs : ∀ m (hm : m < (ordF TT).length), PR (m + 1) = rsS TT (PR m) (ordF TT)[m] := fun m hm => by
    rw [hPR]; dsimp only; rw [List.take_succ_eq_append_getElem hm, List.foldl_append]; rfl
  clear hPH hPR
  refine NeedL.mk (Nat × Hp × Hp) (fun g => [(1, .bx 1 0), (2, .v oH.v), (3, .v oR.v), (6, .v oT.v), (30, .v oO.v), (31, .v (.int .i64 oO.n)), (32, .v (.int .i64 g.1))]) (fun g => [.hp (Hp.whole w), .box b1 [.slice a n c, .slice a' n' c'] 25, .hp oO.h, .hp oT.h, .hp g.2.1, .hp g.2.2])
    (fun g => g.1 ≤ (ordF TT).length ∧ Bd TT.length (PH g.1) (1048576000 * g.1) ∧ Rb TT.length (PR g.1) ∧ OwnO fI 3 1 ⟨oH.a, oH.n, oH.c, g.2.1⟩ (PH g.1) ∧ OwnO fI 3 1 ⟨oR.a, oR.n, oR.c, g.2.2⟩ (PR g.1)) (fun g => oO.n - g.1) (0, oH.h, oR.h)
    ⟨Nat.zero_le _, by dsimp only; rw [hH0]; exact Bd.zero _, by dsimp only; rw [hR0]; exact Rb.zero _, by dsimp only; rw [hH0]; exact hoH, by dsimp only; rw [hR0]; exact hoR⟩ (Ent.mk (fun _ _ h => h) rfl rfl) ?_
  clear hoH hoR hH0 hR0
  rintro ⟨m, hH, hR⟩ ⟨hm, hBH, hBR, hoH, hoR⟩
  dsimp only at *
  refine bsplitd (fun h1 => ?_) (fun h1 => ?_)
  · have hml : m < (ordF TT).length := by omega
    have hmn : m < (natL (ordF TT)).length := by omega
    obtain ⟨i, hid⟩ : ∃ i, i = (ordF TT)[m] := ⟨_, rfl⟩
    have hi : i < TT.length := by rw [hid]; exact ordF_lt _ (List.getElem_mem hml)
    have hnat : (natL (ordF TT))[m] = (i : Int) := by rw [hid]; simp [natL]
    have hHn := hHs m hml
    have hRn := hRs m hml
    rw [← hid] at hHn hRn
    obtain ⟨t, ht⟩ : ∃ t, t = TT[i] := ⟨_, rfl⟩
    have htm : t ∈ TT := by rw [ht]; exact List.getElem_mem hi
    have har := hF.ar t htm
    have hal := hF.al t htm
    have hdu := hF.du t htm
    have haf : afA TT i = t.af := by unfold afA; rw [tk_get hi, ← ht]
    have hdi : duA TT i = t.du := by unfold duA; rw [tk_get hi, ← ht]
    have hHn2 : PH (m + 1) = t.af.foldl (hdA TT i) (PH m) := by rw [hHn]; unfold hdS; rw [haf]
    have hBn : Bd TT.length (PH (m + 1)) (1048576000 * ((m + 1 : Nat) : Int)) := by rw [hHn]; exact (hBH.hdS hF hi).up (by omega)
    have hRbn : Rb TT.length (PR (m + 1)) := by rw [hRn]; exact hBR.set hF hi
    obtain ⟨H0, hH0⟩ : ∃ H0, H0 = PH m := ⟨_, rfl⟩
    obtain ⟨R0, hR0⟩ : ∃ R0, R0 = PR m := ⟨_, rfl⟩
    rw [← hH0] at hBH hoH hHn2
    rw [← hR0] at hBR hoR hRn
    refine idx (cxg _) (e := 3) rfl sO m rfl hmn (fun b9 o9 cs hcs hR hcell2 => ?_)
    rw [hnat] at hR
    subst hR
    refine ld1 (cxg _) (i := 2) rfl (hcell2 0 _ rfl) rfl ?_
    refine idx (cxg _) (e := 64) rfl hT i rfl hi (fun b9 o9 cs hcs hR hcell3 => ?_)
    rw [← ht] at hR
    obtain ⟨a3, n3, c3, rfl, hs3⟩ := hR
    have l3 := hs3.len
    refine ld1 (cxg _) (i := 0) rfl (hcell3 3 _ rfl) rfl ?_
    refine NeedL.mk (Nat × Hp) (fun g => [(1, .bx 1 0), (2, .v oH.v), (3, .v oR.v), (6, .v oT.v), (9, .v (.int .i64 i)), (30, .v oO.v), (31, .v (.int .i64 oO.n)), (32, .v (.int .i64 m)), (41, .v (.slice a3 n3 c3)), (42, .v (.int .i64 n3)), (43, .v (.int .i64 g.1))]) (fun g => [.hp (Hp.whole w), .box b1 [.slice a n c, .slice a' n' c'] 25, .hp oO.h, .hp oT.h, .hp g.2, .hp hR])
      (fun g => g.1 ≤ n3 ∧ Bd TT.length ((t.af.take g.1).foldl (hdA TT i) H0) (1048576000 * m + 1048576 * g.1) ∧ OwnO fI 3 1 ⟨oH.a, oH.n, oH.c, g.2⟩ ((t.af.take g.1).foldl (hdA TT i) H0)) (fun g => n3 - g.1) (0, hH) ⟨Nat.zero_le _, Bd.up hBH (by dsimp only; omega), hoH⟩ (Ent.mk (fun _ _ h => h) rfl rfl) ?_
    clear hoH
    rintro ⟨q, hH⟩ ⟨hq, hBq, hoH⟩
    dsimp only at *
    refine bsplitd (fun h4 => ?_) (fun h4 => ?_)
    · have hqa : q < t.af.length := by omega
      obtain ⟨x, hx⟩ : ∃ x, x = t.af[q] := ⟨_, rfl⟩
      have hxr := har x (by rw [hx]; exact List.getElem_mem hqa)
      obtain ⟨H, hHd⟩ : ∃ H, H = (t.af.take q).foldl (hdA TT i) H0 := ⟨_, rfl⟩
      have hst : (t.af.take (q + 1)).foldl (hdA TT i) H0 = hdA TT i H x := by
        rw [List.take_succ_eq_append_getElem hqa, List.foldl_append, ← hHd, ← hx]; rfl
      rw [← hHd] at hBq hoH
      have hHl := hBq.1
      have sH := OwnO.sl (f := fI) (fun _ => rfl) (by decide) hoH
      have hiH : i < H.length := by omega
      have hxH : x.toNat < H.length := by omega
      have hxT : x.toNat < TT.length := by omega
      obtain ⟨u, hu⟩ : ∃ u, u = H[i] := ⟨_, rfl⟩
      obtain ⟨v, hv⟩ : ∃ v, v = H[x.toNat] := ⟨_, rfl⟩
      obtain ⟨t2, ht2⟩ : ∃ t2, t2 = TT[x.toNat] := ⟨_, rfl⟩
      have hd2 := hF.du t2 (by rw [ht2]; exact List.getElem_mem hxT)
      have bu := hBq.2 i hi
      have bv := hBq.2 x.toNat hxT
      rw [gD hiH, ← hu] at bu
      rw [gD hxH, ← hv] at bv
      have hst2 : hdA TT i H x = H.set i (max u (v + t2.du)) := by
        unfold hdA duA; rw [gD hiH, gD hxH, tk_get hxT, ← hu, ← hv, ← ht2]
      have hBq2 := hBq.hdA hF hi hxr
      refine idx (cxg _) (e := 3) rfl hs3 q rfl hqa (fun b9 o9 cs hcs hR hcell5 => ?_)
      rw [← hx] at hR
      subst hR
      refine ld1 (cxg _) (i := 0) rfl (hcell5 0 _ rfl) rfl ?_
      refine NeedD.by_order (cxg _) (.take 0 <| .take 1 <| .take 2 <| .take 3 <| .take 4 <| .take 5 <| .take 6 <| .take 7 <| .take 8 <| .take 9 <| .take 10 <| .take 11 <| .take 12 <| .take 13 <| .take 14 <| .take 15 <| .take 16 <| .run 17 <| .take 18 <| .run 19 <| .done) (by kernel_rfl) ?_
      refine idx (cxg _) (e := 3) rfl sH i rfl hiH (fun b9 o9 cs hcs hR hcell6 => ?_)
      rw [← hu] at hR
      subst hR
      refine ld1 (cxg _) (i := 4) rfl (hcell6 0 _ rfl) rfl ?_
      refine idx (cxg _) (e := 3) rfl sH x.toNat (by omega) hxH (fun b9 o9 cs hcs hR hcell7 => ?_)
      rw [← hv] at hR
      subst hR
      refine ld1 (cxg _) (i := 4) rfl (hcell7 0 _ rfl) rfl ?_
      refine idx (cxg _) (e := 64) rfl hT x.toNat (by omega) hxT (fun b9 o9 cs hcs hR hcell8 => ?_)
      rw [← ht2] at hR
      obtain ⟨a4, n4, c4, rfl, hs4⟩ := hR
      refine ld1 (cxg _) (i := 0) rfl (hcell8 1 _ rfl) rfl ?_
      refine nw (by omega) (by omega) ?_
      refine qMax ?_
      refine ⟨(by repeat first | exact trivial | refine ⟨.inl rfl, ?_⟩ | refine ⟨.inr rfl, ?_⟩), ?_⟩
      refine oidx1 (cxg _) (e := 3) rfl rfl (o := ⟨oH.a, oH.n, oH.c, hH⟩) hoH i rfl hiH fun b7 hb7 => ?_
      refine osto (g := fun x : Int => .int .i64 x) (fun _ => rfl) (cxg _) (i := 4) (o := ⟨oH.a, oH.n, oH.c, hH⟩) rfl hb7 hoH hiH rfl rfl (max u (v + t2.du)) rfl rfl rfl fun o2 f1 f2 f3 ho2 => ?_
      obtain ⟨xa, xn, xc, h3⟩ := o2
      simp only at f1 f2 f3
      subst f1 f2 f3
      refine nw (by omega) (by omega) ?_
      exact ⟨(q + 1, h3), ⟨by dsimp only; omega, by dsimp only; rw [hst]; exact Bd.up hBq2 (by omega), by dsimp only; rw [hst, hst2]; exact ho2⟩, by dsimp only; omega, Ent.mk (fun _ _ h => h) rfl rfl⟩
    · have hqn : t.af.take q = t.af := List.take_of_length_le (by omega)
      rw [hqn, ← hHn2] at hoH
      have hiT : i < (tailsF TT).length := by omega
      have hRl := hBR.1
      have hiR : i < R0.length := by omega
      obtain ⟨u, hu⟩ : ∃ u, u = (tailsF TT)[i] := ⟨_, rfl⟩
      have hu2 := tl_rng hF hi
      rw [gD hiT, ← hu] at hu2
      have hRn2 : PR (m + 1) = R0.set i (u - t.du) := by rw [hRn]; unfold rsS; rw [gD hiT, ← hu, hdi]
      refine NeedD.by_order (cxg _) (.take 0 <| .take 1 <| .take 2 <| .take 3 <| .take 4 <| .take 5 <| .take 6 <| .take 7 <| .take 8 <| .take 9 <| .take 10 <| .take 11 <| .take 12 <| .take 13 <| .run 14 <| .done) (by kernel_rfl) ?_
      refine idx (cxg _) (e := 3) rfl sT i rfl hiT (fun b9 o9 cs hcs hR hcell10 => ?_)
      rw [← hu] at hR
      subst hR
      refine ld1 (cxg _) (i := 3) rfl (hcell10 0 _ rfl) rfl ?_
      refine idx (cxg _) (e := 64) rfl hT i rfl hi (fun b9 o9 cs hcs hR hcell11 => ?_)
      rw [← ht] at hR
      obtain ⟨a4, n4, c4, rfl, hs4⟩ := hR
      refine ld1 (cxg _) (i := 0) rfl (hcell11 1 _ rfl) rfl ?_
      refine nw (by omega) (by omega) ?_
      refine oidx1 (cxg _) (e := 3) rfl rfl (o := ⟨oR.a, oR.n, oR.c, hR⟩) hoR i rfl hiR fun b7 hb7 => ?_
      refine osto (g := fun x : Int => .int .i64 x) (fun _ => rfl) (cxg _) (i := 5) (o := ⟨oR.a, oR.n, oR.c, hR⟩) rfl hb7 hoR hiR rfl rfl (u - t.du) rfl rfl rfl fun o2 f1 f2 f3 ho2 => ?_
      obtain ⟨xa, xn, xc, h3⟩ := o2
      simp only at f1 f2 f3
      subst f1 f2 f3
      refine nw (by omega) (by omega) ?_
      exact ⟨(m + 1, hH, h3), ⟨by dsimp only; omega, hBn, hRbn, hoH, by dsimp only; rw [hRn2]; exact ho2⟩, by dsimp only; omega, Ent.mk (fun _ _ h => h) rfl rfl⟩
  · have hme : m = (ordF TT).length := by omega
    rw [hme, hHe] at hoH
    rw [hme, hRe] at hoR
    exact ⟨[.hp hH, .hp hR], ⟨⟨oH.a, oH.n, oH.c, hH⟩, ⟨oR.a, oR.n, oR.c, hR⟩, rfl, rfl, hoH, hoR⟩, fun w' h => h.pick [0, 4, 5] rfl rfl⟩
/-! ### shared -/
def sumD (TT : List Tk) (l : List Int) : Int := l.foldl (fun s i => s + duA TT i.toNat) 0
def minH (H : List Int) (x : Int) (l : List Int) : Int := l.foldl (fun m i => min m (H.getD i.toNat 0)) x
def shF (TT : List Tk) (H R l : List Int) (st : Nat) : Int := minH H (H.getD (l.getD 0 0).toNat 0) l + ((((sumD TT l).toNat + st - 1) / st : Nat) : Int) + minH R (R.getD (l.getD 0 0).toNat 0) l
theorem sumD_snoc (TT : List Tk) (l : List Int) (x : Int) : sumD TT (l ++ [x]) = sumD TT l + duA TT x.toNat := by unfold sumD; rw [List.foldl_append]; rfl
theorem minH_snoc (H : List Int) (y : Int) (l : List Int) (x : Int) : minH H y (l ++ [x]) = min (minH H y l) (H.getD x.toNat 0) := by unfold minH; rw [List.foldl_append]; rfl
set_option maxRecDepth 10000 in
theorem shared_spec {at' : Option Addr} {nt ct : Nat} {ah : Option Addr} {nh ch : Nat} {ar : Option Addr} {nr cr : Nat} {l H R : List Int} (st : Nat) (w : World) (hT : Sl encT 4 (Hp.whole w) a n c TT) (hF : Fit TT) (hl : Sl (encF fI) 1 (Hp.whole w) at' nt ct l) (hH : Sl (encF fI) 1 (Hp.whole w) ah nh ch H) (hR : Sl (encF fI) 1 (Hp.whole w) ar nr cr R)
    (hr : ∀ x ∈ l, 0 ≤ x ∧ x < (TT.length : Int)) (h0 : 0 < l.length) (h1 : l.length < 1000) (hHb : ∀ i, i < TT.length → -1000000000000 ≤ H.getD i 0 ∧ H.getD i 0 ≤ 1000000000000) (hRb : ∀ i, i < TT.length → -1000000000000 ≤ R.getD i 0 ∧ R.getD i 0 ≤ 1000000000000) (hHl : H.length = TT.length) (hRl : R.length = TT.length) (hs0 : 0 < st) (hs1 : st < 1000) :
    CallsE Tryz.prog 52 #[sv a n c a' n' c', .slice at' nt ct, .int .i64 st, .slice ah nh ch, .slice ar nr cr] w (RetV w (.int .i64 (shF TT H R l st))) := by
  have ll := hl.len
  refine enter (X := cx 65) (cxg _) (args := [.agg #[.slice a n c, .slice a' n' c'], .slice at' nt ct, .int .i64 st, .slice ah nh ch, .slice ar nr cr]) [.tmp 10] Tryz.func52 rfl rfl rfl rfl rfl ?_
  intro b5
  obtain ⟨x0, hx0⟩ : ∃ x0, x0 = l[0] := ⟨_, rfl⟩
  have hx0r := hr x0 (by rw [hx0]; exact List.getElem_mem h0)
  have hl0 : l.getD 0 0 = x0 := by rw [hx0]; exact gD h0
  have kH : x0.toNat < H.length := by omega
  have kR : x0.toNat < R.length := by omega
  obtain ⟨u0, hu0⟩ : ∃ u0, u0 = H[x0.toNat] := ⟨_, rfl⟩
  obtain ⟨v0, hv0⟩ : ∃ v0, v0 = R[x0.toNat] := ⟨_, rfl⟩
  have bu0 := hHb x0.toNat (by omega)
  have bv0 := hRb x0.toNat (by omega)
  have hfin : shF TT H R l st = minH H u0 l + ((((sumD TT l).toNat + st - 1) / st : Nat) : Int) + minH R v0 l := by unfold shF; rw [hl0, gD kH, gD kR, hu0, hv0]
  rw [gD kH, ← hu0] at bu0
  rw [gD kR, ← hv0] at bv0
  refine NeedD.by_order (cxg _) (.take 0 <| .take 1 <| .take 2 <| .take 3 <| .take 4 <| .take 5 <| .take 6 <| .take 7 <| .take 8 <| .take 9 <| .take 10 <| .take 11 <| .take 12 <| .take 13 <| .take 14 <| .done) (by kernel_rfl) ?_
  refine idx (cxg _) (e := 3) rfl hl 0 rfl h0 (fun b9 o9 cs hcs hR' hcell1 => ?_)
  rw [← hx0] at hR'
  subst hR'
  refine ld1 (cxg _) (i := 0) rfl (hcell1 0 _ rfl) rfl ?_
  refine idx (cxg _) (e := 3) rfl hH x0.toNat (by omega) kH (fun b9 o9 cs hcs hR' hcell2 => ?_)
  rw [← hu0] at hR'
  subst hR'
  refine ld1 (cxg _) (i := 0) rfl (hcell2 0 _ rfl) rfl ?_
  refine idx (cxg _) (e := 3) rfl hl 0 rfl h0 (fun b9 o9 cs hcs hR' hcell3 => ?_)
  rw [← hx0] at hR'
  subst hR'
  refine ld1 (cxg _) (i := 0) rfl (hcell3 0 _ rfl) rfl ?_
  refine idx (cxg _) (e := 3) rfl hR x0.toNat (by omega) kR (fun b9 o9 cs hcs hR' hcell4 => ?_)
  rw [← hv0] at hR'
  subst hR'
  refine ld1 (cxg _) (i := 0) rfl (hcell4 0 _ rfl) rfl ?_
  refine NeedL.mk (Nat × Int × Int × Int) (fun g => [(2, .v (.int .i64 st)), (3, .v (.slice ah nh ch)), (4, .v (.slice ar nr cr)), (5, .bx 1 0), (11, .v (.int .i64 g.2.1)), (12, .v (.int .i64 g.2.2.1)), (13, .v (.int .i64 g.2.2.2)), (28, .v (.slice at' nt ct)), (29, .v (.int .i64 nt)), (30, .v (.int .i64 g.1))]) (fun _ => [.hp (Hp.whole w), .box b5 [.slice a n c, .slice a' n' c'] 25])
    (fun g => g.1 ≤ nt ∧ (g.2.1 = sumD TT (l.take g.1) ∧ g.2.2.1 = minH H u0 (l.take g.1) ∧ g.2.2.2 = minH R v0 (l.take g.1)) ∧ (0 ≤ g.2.1 ∧ g.2.1 ≤ 1048576 * g.1) ∧ (-1000000000000 ≤ g.2.2.1 ∧ g.2.2.1 ≤ 1000000000000) ∧ (-1000000000000 ≤ g.2.2.2 ∧ g.2.2.2 ≤ 1000000000000)) (fun g => nt - g.1) (0, 0, u0, v0) ⟨Nat.zero_le _, ⟨rfl, rfl, rfl⟩, ⟨Int.le_refl _, by dsimp only; omega⟩, bu0, bv0⟩ (Ent.mk (fun _ _ h => h) rfl rfl) ?_
  rintro ⟨q, s, f, r⟩ ⟨hq, ⟨e1, e2, e3⟩, bs, bf, br⟩
  dsimp only at *
  refine bsplitd (fun h5 => ?_) (fun h5 => ?_)
  · have hql : q < l.length := by omega
    obtain ⟨x, hx⟩ : ∃ x, x = l[q] := ⟨_, rfl⟩
    have hxr := hr x (by rw [hx]; exact List.getElem_mem hql)
    have hxT : x.toNat < TT.length := by omega
    have kH : x.toNat < H.length := by omega
    have kR : x.toNat < R.length := by omega
    obtain ⟨u, hu⟩ : ∃ u, u = H[x.toNat] := ⟨_, rfl⟩
    obtain ⟨v, hv⟩ : ∃ v, v = R[x.toNat] := ⟨_, rfl⟩
    obtain ⟨t, ht⟩ : ∃ t, t = TT[x.toNat] := ⟨_, rfl⟩
    have hdu := hF.du t (by rw [ht]; exact List.getElem_mem hxT)
    have bu := hHb x.toNat (by omega)
    have bv := hRb x.toNat (by omega)
    have n1 : sumD TT (l.take (q + 1)) = s + t.du := by rw [List.take_succ_eq_append_getElem hql, sumD_snoc, ← e1, ← hx]; unfold duA; rw [tk_get hxT, ← ht]
    have n2 : minH H u0 (l.take (q + 1)) = min f u := by rw [List.take_succ_eq_append_getElem hql, minH_snoc, ← e2, ← hx, gD kH, ← hu]
    have n3 : minH R v0 (l.take (q + 1)) = min r v := by rw [List.take_succ_eq_append_getElem hql, minH_snoc, ← e3, ← hx, gD kR, ← hv]
    rw [gD kH, ← hu] at bu
    rw [gD kR, ← hv] at bv
    refine idx (cxg _) (e := 3) rfl hl q rfl hql (fun b9 o9 cs hcs hR' hcell6 => ?_)
    rw [← hx] at hR'
    subst hR'
    refine ld1 (cxg _) (i := 0) rfl (hcell6 0 _ rfl) rfl ?_
    refine idx (cxg _) (e := 64) rfl hT x.toNat (by omega) hxT (fun b9 o9 cs hcs hR' hcell7 => ?_)
    rw [← ht] at hR'
    obtain ⟨a4, n4, c4, rfl, hs4⟩ := hR'
    refine ld1 (cxg _) (i := 0) rfl (hcell7 1 _ rfl) rfl ?_
    refine nw (by omega) (by omega) ?_
    refine NeedD.cut Unit (fun _ => [(2, .v (.int .i64 st)), (3, .v (.slice ah nh ch)), (4, .v (.slice ar nr cr)), (5, .bx 1 0), (11, .v (.int .i64 (s + t.du))), (12, .v (.int .i64 (min f u))), (13, .v (.int .i64 (min r v))), (28, .v (.slice at' nt ct)), (29, .v (.int .i64 nt)), (30, .v (.int .i64 q))]) (fun _ => [.hp (Hp.whole w), .box b5 [.slice a n c, .slice a' n' c'] 25]) (fun _ => True) (NeedD.by_order (cxg _) (.take 0 <| .take 1 <| .take 2 <| .take 3 <| .take 4 <| .take 6 <| .take 7 <| .take 8 <| .take 9 <| .take 10 <| .two 5 (.take 12 <| .run 11 <| .take 13 <| .done) 11 (.run 5 <| .take 12 <| .take 13 <| .done)) (by kernel_rfl) ?_) ?_
    · refine idx (cxg _) (e := 3) rfl hH x.toNat (by omega) kH (fun b9 o9 cs hcs hR' hcell8 => ?_)
      rw [← hu] at hR'
      subst hR'
      refine ld1 (cxg _) (i := 0) rfl (hcell8 0 _ rfl) rfl ?_
      refine idx (cxg _) (e := 3) rfl hR x.toNat (by omega) kR (fun b9 o9 cs hcs hR' hcell9 => ?_)
      rw [← hv] at hR'
      subst hR'
      refine ld1 (cxg _) (i := 0) rfl (hcell9 0 _ rfl) rfl ?_
      constructor
      · refine qMinI ?_
        refine ⟨(by repeat first | exact trivial | refine ⟨.inl rfl, ?_⟩ | refine ⟨.inr rfl, ?_⟩), ?_⟩
        refine qMinI ?_
        refine ⟨(by repeat first | exact trivial | refine ⟨.inl rfl, ?_⟩ | refine ⟨.inr rfl, ?_⟩), ?_⟩
        exact ⟨(), trivial, Ent.mk (fun _ _ h => h) rfl rfl⟩
      · refine qMinI ?_
        refine ⟨(by repeat first | exact trivial | refine ⟨.inl rfl, ?_⟩ | refine ⟨.inr rfl, ?_⟩), ?_⟩
        refine qMinI ?_
        refine ⟨(by repeat first | exact trivial | refine ⟨.inl rfl, ?_⟩ | refine ⟨.inr rfl, ?_⟩), ?_⟩
        exact ⟨(), trivial, Ent.mk (fun _ _ h => h) rfl rfl⟩
    rintro ⟨⟩ _ _
    dsimp only
    refine nw (by omega) (by omega) ?_
    exact ⟨(q + 1, s + t.du, min f u, min r v), ⟨by dsimp only; omega, ⟨n1.symm, n2.symm, n3.symm⟩, ⟨by dsimp only; omega, by dsimp only; omega⟩, ⟨by dsimp only; omega, by dsimp only; omega⟩, ⟨by dsimp only; omega, by dsimp only; omega⟩⟩, by dsimp only; omega, Ent.mk (fun _ _ h => h) rfl rfl⟩
  · have hqe : l.take q = l := List.take_of_length_le (by omega)
    rw [hqe] at e1 e2 e3
    refine nw (by omega) (by omega) ?_
    refine nw (by omega) (by omega) ?_
    obtain ⟨d, hd⟩ : ∃ d, d = (s.toNat + st - 1) / st := ⟨_, rfl⟩
    have hd2 : d ≤ s.toNat + st - 1 := by rw [hd]; exact Nat.div_le_self _ _
    refine qQuoM (s.toNat + st - 1) st d (by omega) rfl hs0 (by omega) hd ?_
    refine nw (by omega) (by omega) ?_
    refine nw (by omega) (by omega) ?_
    exact ⟨[], ⟨by rw [hfin, ← e1, ← e2, ← e3, hd], rfl⟩, fun w' h => h.pick [0] rfl rfl⟩
end
end Go.Proofs.YtnlkffccobdbjaaGreat
