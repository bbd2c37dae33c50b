/- Contracts of the model of layer 50: lower, idle. Their premises are their own. -/
import Derived.Test.YtnlkffccobdbjaaGreatYXg
import Derived.Test.YtnlkffccobdbjaaGreatYWt
namespace Go.Proofs.YtnlkffccobdbjaaGreat
open Go Go.RowKit Go.Dw
theorem bits_lt {A N M : Nat} (h : A < 2 ^ N) : ∀ x ∈ bitsI A M, 0 ≤ x ∧ x < (N : Int) := fun x hx => by
  unfold bitsI natL at hx
  obtain ⟨k, hk, rfl⟩ := List.mem_map.1 hx
  have hb := (List.mem_filter.1 hk).2
  have hkN : k < N := Classical.byContradiction fun hn => by
    have h2 : A < 2 ^ k := Nat.lt_of_lt_of_le h (Nat.pow_le_pow_right (by decide) (by omega))
    have h3 := Nat.testBit_lt_two_pow h2
    unfold bitsP at hb
    rw [decide_eq_true_eq, Nat.and_one_is_mod] at hb
    rw [Nat.testBit, Nat.one_and_eq_mod_two, hb] at h3
    cases h3
  omega
/-- a proof by sets of tasks and stations, given by their bits -/
def setP (TT : List Tk) (SS : List Sn) (A B : Nat) : Int × Bool := prvF TT SS [] (bitsI A 16) (bitsI B 16)
structure LwP (TT : List Tk) (SS : List Sn) (nt : Nat) (q : Nat → Nat → Prop) (m : Int) : Prop where
  z : 0 ≤ m
  t : ∀ i, i < nt → tlV TT i ≤ m
  p : ∀ A B, q A B → 0 < A → (setP TT SS A B).2 = true → (setP TT SS A B).1 ≤ m
  a : m = 0 ∨ (∃ i, i < nt ∧ m = tlV TT i) ∨ ∃ A B, q A B ∧ 0 < A ∧ (setP TT SS A B).2 = true ∧ m = (setP TT SS A B).1
theorem LwP.congr {TT : List Tk} {SS : List Sn} {nt : Nat} {q q' : Nat → Nat → Prop} {m : Int} (h : LwP TT SS nt q m) (e : ∀ A B, q A B ↔ q' A B) : LwP TT SS nt q' m := by
  have : q = q' := funext fun A => funext fun B => propext (e A B)
  rw [← this]; exact h
theorem LwP.uniq {TT : List Tk} {SS : List Sn} {nt : Nat} {q : Nat → Nat → Prop} {m m' : Int} (h : LwP TT SS nt q m) (h' : LwP TT SS nt q m') : m = m' := by
  have key : ∀ {m m' : Int}, LwP TT SS nt q m → LwP TT SS nt q m' → m ≤ m' := fun {m m'} h h' => by
    rcases h.a with e | ⟨i, hi, e⟩ | ⟨A, B, hq, h0, h2, e⟩
    · rw [e]; exact h'.z
    · rw [e]; exact h'.t i hi
    · rw [e]; exact h'.p A B hq h0 h2
  exact Int.le_antisymm (key h h') (key h' h)
theorem LwP.tail {TT : List Tk} {SS : List Sn} {k : Nat} {q : Nat → Nat → Prop} {m : Int} (h : LwP TT SS k q m) : LwP TT SS (k + 1) q (max m (tlV TT k)) := by
  have hz := h.z
  refine ⟨by omega, fun i hi => ?_, fun A B hq h0 h2 => by have := h.p A B hq h0 h2; omega, ?_⟩
  · by_cases hk : i = k
    · subst hk; omega
    · have := h.t i (by omega); omega
  · rcases Int.le_total m (tlV TT k) with hle | hle
    · exact .inr (.inl ⟨k, Nat.lt_succ_self _, by omega⟩)
    · rw [show max m (tlV TT k) = m by omega]
      rcases h.a with e | ⟨i, hi, e⟩ | e
      · exact .inl e
      · exact .inr (.inl ⟨i, by omega, e⟩)
      · exact .inr (.inr e)
theorem LwP.hit {TT : List Tk} {SS : List Sn} {nt x y : Nat} {q q' : Nat → Nat → Prop} {m : Int} (h : LwP TT SS nt q m) (e : ∀ A B, q' A B ↔ q A B ∨ (A = x ∧ B = y)) (h0 : 0 < x) (h2 : (setP TT SS x y).2 = true) : LwP TT SS nt q' (max m (setP TT SS x y).1) := by
  have hz := h.z
  refine ⟨by omega, fun i hi => by have := h.t i hi; omega, fun A B hq g0 g2 => ?_, ?_⟩
  · rcases (e A B).1 hq with hq | ⟨rfl, rfl⟩
    · have := h.p A B hq g0 g2; omega
    · omega
  · rcases Int.le_total m (setP TT SS x y).1 with hle | hle
    · exact .inr (.inr ⟨x, y, (e x y).2 (.inr ⟨rfl, rfl⟩), h0, h2, by omega⟩)
    · rw [show max m (setP TT SS x y).1 = m by omega]
      rcases h.a with e1 | e1 | ⟨A, B, hq, g⟩
      · exact .inl e1
      · exact .inr (.inl e1)
      · exact .inr (.inr ⟨A, B, (e A B).2 (.inl hq), g⟩)
theorem LwP.miss {TT : List Tk} {SS : List Sn} {nt x y : Nat} {q q' : Nat → Nat → Prop} {m : Int} (h : LwP TT SS nt q m) (e : ∀ A B, q' A B ↔ q A B ∨ (A = x ∧ B = y)) (hn : ¬ (0 < x ∧ (setP TT SS x y).2 = true)) : LwP TT SS nt q' m := by
  refine ⟨h.z, h.t, fun A B hq g0 g2 => ?_, ?_⟩
  · rcases (e A B).1 hq with hq | ⟨rfl, rfl⟩
    · exact h.p A B hq g0 g2
    · exact absurd ⟨g0, g2⟩ hn
  · rcases h.a with e1 | e1 | ⟨A, B, hq, g⟩
    · exact .inl e1
    · exact .inr (.inl e1)
    · exact .inr (.inr ⟨A, B, (e A B).2 (.inl hq), g⟩)
/-- the greatest bound that has a proof -/
def LwM (TT : List Tk) (SS : List Sn) (m : Int) : Prop := LwP TT SS TT.length (fun A B => A < 2 ^ TT.length ∧ B < 2 ^ SS.length) m
section
variable {a a' : Option Addr} {n c n' c' : Nat} {TT : List Tk} {SS : List Sn}
set_option maxRecDepth 10000 in
theorem lower50_spec (w : World) (hT : Sl encT 4 (Hp.whole w) a n c TT) (hS : Sl encN 2 (Hp.whole w) a' n' c' SS) (hs : Sml TT SS) (hE : shopE TT SS = 0) (hN : TT.length ≤ 12) :
    CallsE Tryz.prog 16 #[sv a n c a' n' c'] w (Ret w fun v cs => ∃ m : Int, v = .int .i64 m ∧ cs = [] ∧ LwM TT SS m) := by
  have lT := hT.len
  have lS := hS.len
  have hF := fit_of hs hE
  have hO := (shop_ok hE).2.2.2.1
  have hM := (shop_ok hE).2.1
  refine enter (X := cx 56) (cxg _) (args := [.agg #[.slice a n c, .slice a' n' c']]) [.tmp 2] Tryz.func16 rfl rfl rfl rfl rfl ?_
  intro b1
  refine NeedL.mk (Nat × Int) (fun g => [(1, .bx 1 0), (3, .v (.int .i64 g.2)), (11, .v (.int .i64 n)), (12, .v (.int .i64 g.1))]) (fun _ => [.hp (Hp.whole w), .box b1 [.slice a n c, .slice a' n' c'] 25])
    (fun g => g.1 ≤ n ∧ LwP TT SS g.1 (fun _ _ => False) g.2) (fun g => n - g.1) (0, 0) ⟨Nat.zero_le _, ⟨Int.le_refl _, fun i hi => absurd hi (Nat.not_lt_zero i), fun _ _ h => h.elim, .inl rfl⟩⟩ (Ent.mk (fun _ _ h => h) rfl rfl) ?_
  rintro ⟨k, m⟩ ⟨hk, hm⟩
  dsimp only at *
  refine bsplitd (fun h1 => ?_) (fun h1 => ?_)
  · have hkT : k < TT.length := by omega
    obtain ⟨t, ht⟩ : ∃ t, t = tlV TT k := ⟨_, rfl⟩
    have hst := hm.tail
    rw [← ht] at hst
    refine callV (.int .i64 t) (fun w' hm => by rw [ht]; exact tail50_spec hF hO k w' hkT (hT.mono encT_mono (hm 0 _ rfl))) ?_
    refine qMax ?_
    refine nw (by omega) (by omega) ?_
    exact ⟨(k + 1, max m t), ⟨by dsimp only; omega, hst⟩, by dsimp only; omega, Ent.mk (fun _ _ h => h) rfl rfl⟩
  obtain rfl : k = TT.length := by omega
  have h2N : 2 ^ TT.length ≤ 4096 := Nat.le_trans (Nat.pow_le_pow_right (by decide) hN) (by decide)
  have h2M : 2 ^ SS.length ≤ 256 := Nat.le_trans (Nat.pow_le_pow_right (by decide) hM) (by decide)
  refine qShlI TT.length rfl (by omega) (by omega) ?_
  refine NeedL.mk (Nat × Int) (fun g => [(1, .bx 1 0), (3, .v (.int .i64 g.2)), (24, .v (.int .i64 (2 ^ TT.length : Nat))), (25, .v (.int .i64 g.1))]) (fun _ => [.hp (Hp.whole w), .box b1 [.slice a n c, .slice a' n' c'] 25])
    (fun g => g.1 ≤ 2 ^ TT.length ∧ LwP TT SS TT.length (fun A B => A < g.1 ∧ B < 2 ^ SS.length) g.2) (fun g => 2 ^ TT.length - g.1) (0, m) ⟨Nat.zero_le _, hm.congr fun A B => ⟨False.elim, fun h => Nat.not_lt_zero _ h.1⟩⟩ (Ent.mk (fun _ _ h => h) rfl rfl) ?_
  clear hm hk h1
  rintro ⟨x, m⟩ ⟨hx, hm⟩
  dsimp only at *
  refine bsplitd (fun h2 => ?_) (fun h2 => ?_)
  · have hxN : x < 2 ^ TT.length := by omega
    refine qShlI SS.length rfl (by omega) (by omega) ?_
    refine NeedL.mk (Nat × Int) (fun g => [(1, .bx 1 0), (3, .v (.int .i64 g.2)), (5, .v (.int .i64 x)), (24, .v (.int .i64 (2 ^ TT.length : Nat))), (25, .v (.int .i64 x)), (31, .v (.int .i64 (2 ^ SS.length : Nat))), (32, .v (.int .i64 g.1))]) (fun _ => [.hp (Hp.whole w), .box b1 [.slice a n c, .slice a' n' c'] 25])
      (fun g => g.1 ≤ 2 ^ SS.length ∧ LwP TT SS TT.length (fun A B => (A < x ∧ B < 2 ^ SS.length) ∨ (A = x ∧ B < g.1)) g.2) (fun g => 2 ^ SS.length - g.1) (0, m) ⟨Nat.zero_le _, hm.congr fun A B => ⟨.inl, fun h => h.elim id fun h => absurd h.2 (Nat.not_lt_zero _)⟩⟩ (Ent.mk (fun _ _ h => h) rfl rfl) ?_
    clear hm
    rintro ⟨y, m⟩ ⟨hy, hm⟩
    dsimp only at *
    refine bsplitd (fun h3 => ?_) (fun h3 => ?_)
    · have hyM : y < 2 ^ SS.length := by omega
      have hq : ∀ A B, ((A < x ∧ B < 2 ^ SS.length) ∨ (A = x ∧ B < y + 1)) ↔ ((A < x ∧ B < 2 ^ SS.length) ∨ (A = x ∧ B < y)) ∨ (A = x ∧ B = y) := fun A B => by omega
      obtain ⟨pn, hpn⟩ : ∃ pn, pn = (setP TT SS x y).1 := ⟨_, rfl⟩
      obtain ⟨pb, hpb⟩ : ∃ pb, pb = (setP TT SS x y).2 := ⟨_, rfl⟩
      have bA := bitsI_len x 16
      have bB := bitsI_len y 16
      refine NeedD.by_order (cxg _) (.take 0 <| .take 1 <| .take 3 <| .run 2 <| .run 4 <| .take 5 <| .run 6 <| .take 7 <| .take 8 <| .take 9 <| .take 10 <| .take 11 <| .done) (by kernel_rfl) ?_
      refine call (fun w' hm => bits50_spec x w' (by omega)) ?_
      rintro _ _ ⟨oA, rfl, rfl, hoA⟩
      refine ⟨(by repeat first | exact trivial | refine ⟨.inl rfl, ?_⟩ | refine ⟨.inr rfl, ?_⟩), ?_⟩
      refine call (fun w' hm => bits50_spec y w' (by omega)) ?_
      rintro _ _ ⟨oB, rfl, rfl, hoB⟩
      refine ⟨(by repeat first | exact trivial | refine ⟨.inl rfl, ?_⟩ | refine ⟨.inr rfl, ?_⟩), ?_⟩
      have sA := OwnO.sl (f := fI) (fun _ => rfl) (by decide) hoA
      have sB := OwnO.sl (f := fI) (fun _ => rfl) (by decide) hoB
      have kP : ∀ w' : World, Sl encT 4 (Hp.whole w') a n c TT → Sl encN 2 (Hp.whole w') a' n' c' SS → Sl (encF fI) 1 (Hp.whole w') oA.a oA.n oA.c (bitsI x 16) → Sl (encF fI) 1 (Hp.whole w') oB.a oB.n oB.c (bitsI y 16) →
          CallsE Tryz.prog 54 #[sv a n c a' n' c', .agg #[.slice none 0 0, .slice oA.a oA.n oA.c, .slice oB.a oB.n oB.c]] w' (RetV w' (.tuple #[.int .i64 pn, .bool pb])) := fun w' h1 h2 h3 h4 => by
        rw [hpn, hpb]
        exact proved_spec w' h1 h2 hs hE (Sd.nil_rd _) h3 h4 nofun (bits_lt hxN) (by show 0 < 1000; decide) (by omega) (by omega)
      refine callV _ (fun w' hm => kP w' (hT.mono encT_mono (hm 0 _ rfl)) (hS.mono encN_mono (hm 0 _ rfl)) (sA.mono (encF_mono _) (hm 2 _ rfl)) (sB.mono (encF_mono _) (hm 3 _ rfl))) ?_
      refine ⟨(by repeat first | exact trivial | refine ⟨.inl rfl, ?_⟩ | refine ⟨.inr rfl, ?_⟩), ?_⟩
      refine bsplit (fun h4 => ?_) (fun h4 => ?_)
      · have h4' : (setP TT SS x y).2 = true := by rw [← hpb]; exact h4
        refine bsplitd (fun h5 => ?_) (fun h5 => ?_)
        · have hst := hm.hit hq (by omega) h4'
          rw [← hpn] at hst
          refine qMax ?_
          refine nw (by omega) (by omega) ?_
          exact ⟨(y + 1, max m pn), ⟨by dsimp only; omega, hst⟩, by dsimp only; omega, Ent.mk (fun _ _ h => h.pick [0, 1] rfl rfl) rfl rfl⟩
        · refine nw (by omega) (by omega) ?_
          exact ⟨(y + 1, m), ⟨by dsimp only; omega, hm.miss hq fun h => by omega⟩, by dsimp only; omega, Ent.mk (fun _ _ h => h.pick [0, 1] rfl rfl) rfl rfl⟩
      · refine nw (by omega) (by omega) ?_
        exact ⟨(y + 1, m), ⟨by dsimp only; omega, hm.miss hq fun h => by rw [← hpb, h4] at h; cases h.2⟩, by dsimp only; omega, Ent.mk (fun _ _ h => h.pick [0, 1] rfl rfl) rfl rfl⟩
    · obtain rfl : y = 2 ^ SS.length := by omega
      refine nw (by omega) (by omega) ?_
      exact ⟨(x + 1, m), ⟨by dsimp only; omega, hm.congr fun A B => by dsimp only; omega⟩, by dsimp only; omega, Ent.mk (fun _ _ h => h) rfl rfl⟩
  · obtain rfl : x = 2 ^ TT.length := by omega
    exact ⟨[], ⟨m, rfl, rfl, hm⟩, fun w' h => h.pick [0] rfl rfl⟩
end
/-! ### idle -/
def idK (TT : List Tk) (k : Nat) (p : Int × Int) (j : Jb) : Int × Int := if j.2.1 = (k : Int) then (max p.1 (endF TT j), p.2 + duA TT j.1.toNat) else p
theorem id_split {TT : List Tk} {M k : Nat} (hk : k < M) : ∀ (L : List Jb) (A B : List Int), A.length = M → B.length = M → (∀ j ∈ L, 0 ≤ j.2.1 ∧ j.2.1 < (M : Int)) →
    (L.foldl (idS TT) (A, B)).1.length = M ∧ (L.foldl (idS TT) (A, B)).2.length = M ∧ ((L.foldl (idS TT) (A, B)).1.getD k 0, (L.foldl (idS TT) (A, B)).2.getD k 0) = L.foldl (idK TT k) (A.getD k 0, B.getD k 0)
  | [], A, B, hA, hB, _ => ⟨hA, hB, rfl⟩
  | j :: L, A, B, hA, hB, h => by
    have hj := h j (by simp)
    obtain ⟨h1, h2, h3⟩ := id_split hk L (idS TT (A, B) j).1 (idS TT (A, B) j).2 (by unfold idS; rw [List.length_set, hA]) (by unfold idS; rw [List.length_set, hB]) fun x hx => h x (by simp [hx])
    refine ⟨h1, h2, ?_⟩
    show ((L.foldl (idS TT) (idS TT (A, B) j)).1.getD k 0, (L.foldl (idS TT) (idS TT (A, B) j)).2.getD k 0) = L.foldl (idK TT k) (idK TT k (A.getD k 0, B.getD k 0) j)
    rw [h3]
    refine congrArg (fun p => L.foldl (idK TT k) p) ?_
    unfold idS idK
    dsimp only
    rw [gSet (by omega), gSet (by omega)]
    by_cases he : j.2.1 = (k : Int)
    · rw [if_pos (by omega), if_pos (by omega), if_pos he, show j.2.1.toNat = k by omega]
    · rw [if_neg (by omega), if_neg (by omega), if_neg he]
theorem idF_get {TT : List Tk} {SS : List Sn} {L : List Jb} (h : ∀ j ∈ L, 0 ≤ j.2.1 ∧ j.2.1 < (SS.length : Int)) : (idF TT SS L).length = SS.length ∧ ∀ k, k < SS.length → (idF TT SS L).getD k 0 = (L.foldl (idK TT k) (0, 0)).1 - (L.foldl (idK TT k) (0, 0)).2 := by
  have key := fun k hk => id_split (TT := TT) (M := SS.length) (k := k) hk L (List.replicate SS.length 0) (List.replicate SS.length 0) List.length_replicate List.length_replicate h
  have hl : (idF TT SS L).length = (idP TT SS L).1.length := by unfold idF idG; simp
  have hl2 : (idP TT SS L).1.length = SS.length := by
    rcases Nat.eq_zero_or_pos SS.length with h0 | h0
    · unfold idP
      have : L = [] := by
        cases L with
        | nil => rfl
        | cons j L => have := h j (by simp); omega
      rw [this]; exact List.length_replicate
    · exact (key 0 h0).1
  refine ⟨hl.trans hl2, fun k hk => ?_⟩
  have hp := (key k hk).2.2
  rw [rep_get] at hp
  unfold idF idG
  rw [gD (by simp; omega), List.getElem_map, List.getElem_range, if_pos hk]
  have e1 := congrArg Prod.fst hp
  have e2 := congrArg Prod.snd hp
  dsimp only at e1 e2
  rw [← e1, ← e2]
  rfl
end Go.Proofs.YtnlkffccobdbjaaGreat
