/- Parts of one proof, joined: Sr, St, Su, Sv, Sw, Sx. No condition of its own. -/
import Derived.Test.YtbcjdjlihhlkaaaGreatDoorXM
import Derived.Test.YtbcjdjlihhlkaaaGreatDoorXN
namespace Go.Proofs.YtbcjdjlihhlkaaaGreatDoor
open Go Go.RowKit Go.Dw
def hanS (s p : Nat) (e : Int × Int) : Nat := if s.testBit e.1.toNat && s.testBit e.2.toNat && (p.testBit e.1.toNat || p.testBit e.2.toNat) then p ||| (2 ^ e.1.toNat ||| 2 ^ e.2.toNat) else p
def hanP (E : List (Int × Int)) (s p : Nat) : Nat := E.foldl (hanS s) p
def lowN (s : Nat) : Nat := s &&& ((18446744073709551616 - s) % 18446744073709551616)
def hanK (E : List (Int × Int)) (s : Nat) : Nat → Nat
  | 0 => lowN s
  | r + 1 => hanP E s (hanK E s r)
def hanF (N : Nat) (E : List (Int × Int)) (s : Nat) : Bool := decide (hanK E s N = s)
theorem hanP_snoc (E : List (Int × Int)) (s p : Nat) {k : Nat} (hk : k < E.length) : hanP (E.take (k + 1)) s p = hanS s (hanP (E.take k) s p) E[k] := by
  unfold hanP; rw [List.take_succ_eq_append_getElem hk, List.foldl_append]; rfl
theorem hanS_mono {s p : Nat} {e : Int × Int} : Sub p (hanS s p e) := fun v hv => by
  unfold hanS; split
  · rw [Nat.testBit_or, hv]; rfl
  · exact hv
theorem hanP_mono {s : Nat} : ∀ {E : List (Int × Int)} {p : Nat}, Sub p (hanP E s p)
  | [], _ => fun _ h => h
  | _ :: r, _ => fun v hv => hanP_mono (E := r) v (hanS_mono v hv)
theorem hanS_sub {s p : Nat} {e : Int × Int} (h : Sub p s) : Sub (hanS s p e) s := fun v hv => by
  unfold hanS at hv; split at hv
  · rename_i hc
    rw [Bool.and_eq_true, Bool.and_eq_true] at hc
    rw [Nat.testBit_or, Nat.testBit_or, Nat.testBit_two_pow, Nat.testBit_two_pow, Bool.or_eq_true, Bool.or_eq_true] at hv
    rcases hv with hv | hv | hv
    · exact h v hv
    · rw [← of_decide_eq_true hv]; exact hc.1.1
    · rw [← of_decide_eq_true hv]; exact hc.1.2
  · exact h v hv
theorem hanP_sub {s : Nat} : ∀ {E : List (Int × Int)} {p : Nat}, Sub p s → Sub (hanP E s p) s
  | [], _, h => h
  | _ :: r, _, h => hanP_sub (E := r) (hanS_sub h)
theorem low_sub (s : Nat) : Sub (lowN s) s := fun v hv => by
  unfold lowN at hv
  rw [Nat.testBit_and, Bool.and_eq_true] at hv
  exact hv.1
theorem hanK_sub (E : List (Int × Int)) (s : Nat) : ∀ r, Sub (hanK E s r) s
  | 0 => low_sub s
  | r + 1 => hanP_sub (hanK_sub E s r)
theorem hanK_mono (E : List (Int × Int)) (s r : Nat) : Sub (hanK E s r) (hanK E s (r + 1)) := hanP_mono
theorem sub_le {u t : Nat} (h : Sub u t) : u ≤ t := by
  have : u ||| t = t := Nat.eq_of_testBit_eq fun v => by
    rw [Nat.testBit_or]
    cases hb : u.testBit v with
    | false => simp
    | true => rw [h v hb]; rfl
  rw [← this]; exact Nat.left_le_or
theorem hanK_le (E : List (Int × Int)) (s r : Nat) : hanK E s r ≤ s := sub_le (hanK_sub E s r)
theorem hanK_cnt {E : List (Int × Int)} {s : Nat} (hs : s < 18446744073709551616) : ∀ r, (∀ j, j < r → hanK E s (j + 1) ≠ hanK E s j) → r ≤ (nod (hanK E s r)).length
  | 0, _ => Nat.zero_le _
  | r + 1, h => by
    have ih := hanK_cnt hs r fun j hj => h j (by omega)
    rcases Nat.lt_or_ge (nod (hanK E s r)).length (nod (hanK E s (r + 1))).length with hl | hl
    · omega
    · exact absurd (sub_eq (Nat.lt_of_le_of_lt (hanK_le E s (r + 1)) hs) (hanK_mono E s r) hl).symm (h r (by omega))
theorem hanK_fix {E : List (Int × Int)} {s r : Nat} (h : hanK E s (r + 1) = hanK E s r) : ∀ m, r ≤ m → hanK E s m = hanK E s r
  | 0, hm => by have : r = 0 := by omega
                subst this; rfl
  | m + 1, hm => by
    by_cases e : r = m + 1
    · rw [e]
    · show hanP E s (hanK E s m) = _
      rw [hanK_fix h m (by omega)]
      exact h
theorem hanK_end {N : Nat} {E : List (Int × Int)} {s : Nat} (hN : N ≤ 64) (hs : s < 18446744073709551616) (hr : ∀ v, s.testBit v = true → v < N) : ∀ m, N ≤ m → hanK E s m = hanK E s N := by
  have hex : ∃ j, j ≤ N ∧ hanK E s (j + 1) = hanK E s j := Classical.byContradiction fun hno => by
    have hc := hanK_cnt (E := E) hs (N + 1) fun j hj he => hno ⟨j, by omega, he⟩
    have hb : ∀ v, (hanK E s (N + 1)).testBit v = true → v < N := fun v hv => hr v (hanK_sub E s (N + 1) v hv)
    rw [nod_rng hN hb] at hc
    have := nodK_len (hanK E s (N + 1)) N
    omega
  obtain ⟨j, hj, he⟩ := hex
  intro m hm
  rw [hanK_fix he m (by omega), hanK_fix he N hj]
/-- when the program's loop ends -/
theorem hanK_stop {N : Nat} {E : List (Int × Int)} {s r : Nat} (hN : N ≤ 64) (hs : s < 18446744073709551616) (hr : ∀ v, s.testBit v = true → v < N) (h : hanK E s (r + 1) = hanK E s r) : hanK E s N = hanK E s r := by
  rcases Nat.le_total r N with h1 | h1
  · exact hanK_fix h N h1
  · exact (hanK_end hN hs hr r h1).symm
theorem hanK_more {N : Nat} {E : List (Int × Int)} {s r : Nat} (hN : N ≤ 64) (hs : s < 18446744073709551616) (hr : ∀ v, s.testBit v = true → v < N) (h : hanK E s (r + 1) ≠ hanK E s r) : r < N := by
  rcases Nat.lt_or_ge r N with h1 | h1
  · exact h1
  · exact absurd (by rw [hanK_end hN hs hr (r + 1) (by omega), hanK_end hN hs hr r h1]) h
theorem han_zero (N : Nat) (E : List (Int × Int)) : hanF N E 0 = true := by
  unfold hanF
  exact decide_eq_true (Nat.le_zero.1 (hanK_le E 0 N))
theorem low_zero : lowN 0 = 0 := rfl
end Go.Proofs.YtbcjdjlihhlkaaaGreatDoor
namespace Go.Dw
open Go Go.RowKit
section
variable {P : Program} {s : List Ch} {ty : Nat} {q : TV → Prop}
theorem bits_low_i64 (a : Nat) (h0 : 0 < a) (ha : a < 9223372036854775808) : bits .and .i64 (a : Int) (-(a : Int)) = ((a &&& (18446744073709551616 - a) : Nat) : Int) := by
  have e1 : (BitVec.ofInt 64 (a : Int)).toNat = a := by
    rw [BitVec.ofInt_natCast, BitVec.toNat_ofNat]; exact Nat.mod_eq_of_lt (by omega)
  have e2 : (BitVec.ofInt 64 (-(a : Int))).toNat = 18446744073709551616 - a := by rw [BitVec.toNat_ofInt]; omega
  have hlt : a &&& (18446744073709551616 - a) < 9223372036854775808 := Nat.lt_of_le_of_lt Nat.and_le_left ha
  show IntKind.i64.wrap ((BitVec.ofInt 64 (a : Int) &&& BitVec.ofInt 64 (-(a : Int))).toNat : Int) = _
  rw [BitVec.toNat_and, e1, e2]
  exact wrapI hlt
theorem qLowI (a : Nat) {x y : Int} (hx : x = a) (hy : y = -(a : Int)) (h0 : 0 < a) (ha : a < 9223372036854775808) (h : q (.v (.int .i64 ((a &&& (18446744073709551616 - a) : Nat) : Int)))) : NeedQ P s (binOp .and ty (.int .i64 x) (.int .i64 y)) q := by
  subst hx hy
  exact ⟨_, fun w _ => by show Result.ok (Value.int .i64 (bits .and .i64 a (-(a : Int)))) w = _; rw [bits_low_i64 a h0 ha], h⟩
end
end Go.Dw
namespace Go.Proofs.YtbcjdjlihhlkaaaGreatDoor
open Go Go.RowKit Go.Dw
theorem and_pow {f s : Nat} : 2 ^ f &&& s = if s.testBit f then 2 ^ f else 0 := Nat.eq_of_testBit_eq fun v => by
  rw [Nat.testBit_and, Nat.testBit_two_pow]
  by_cases h : f = v
  · subst h
    cases s.testBit f <;> simp
  · rw [decide_eq_false h, Bool.false_and]
    split
    · rw [Nat.testBit_two_pow, decide_eq_false h]
    · rw [Nat.zero_testBit]
theorem and_pow0 {f s : Nat} : (((2 ^ f &&& s : Nat) : Int) ≠ 0) ↔ s.testBit f = true := by
  rw [and_pow]
  have := Nat.two_pow_pos f
  split
  · rename_i h; exact ⟨fun _ => h, fun _ => by omega⟩
  · rename_i h; exact ⟨fun h' => absurd rfl h', fun h' => absurd h' h⟩
theorem both_all {f t s : Nat} : ((((2 ^ f ||| 2 ^ t) &&& s : Nat) : Int) = ((2 ^ f ||| 2 ^ t : Nat) : Int)) ↔ (s.testBit f && s.testBit t) = true := by
  rw [Bool.and_eq_true, Int.ofNat_inj]
  constructor
  · intro h
    constructor
    · have := congrArg (Nat.testBit · f) h
      simp only [Nat.testBit_and, Nat.testBit_or, Nat.testBit_two_pow_self, Bool.true_or, Bool.true_and] at this
      exact this
    · have := congrArg (Nat.testBit · t) h
      simp only [Nat.testBit_and, Nat.testBit_or, Nat.testBit_two_pow_self, Bool.or_true, Bool.true_and] at this
      exact this
  · rintro ⟨h1, h2⟩
    refine Nat.eq_of_testBit_eq fun v => ?_
    rw [Nat.testBit_and, Nat.testBit_or, Nat.testBit_two_pow, Nat.testBit_two_pow]
    by_cases e1 : f = v
    · subst e1; rw [h1, Bool.and_true]
    · by_cases e2 : t = v
      · subst e2; rw [h2, Bool.and_true]
      · rw [decide_eq_false e1, decide_eq_false e2]; rfl
theorem both_any {f t p : Nat} : ((((2 ^ f ||| 2 ^ t) &&& p : Nat) : Int) ≠ 0) ↔ (p.testBit f || p.testBit t) = true := by
  have h0 : ((((2 ^ f ||| 2 ^ t) &&& p : Nat) : Int) = 0) ↔ (p.testBit f || p.testBit t) = false := by
    rw [and0_iff, Bool.or_eq_false_iff]
    constructor
    · intro h
      exact ⟨h f (by rw [Nat.testBit_or, Nat.testBit_two_pow_self]; rfl), h t (by rw [Nat.testBit_or, Nat.testBit_two_pow_self, Bool.or_true])⟩
    · rintro ⟨h1, h2⟩ v hv
      rw [Nat.testBit_or, Nat.testBit_two_pow, Nat.testBit_two_pow, Bool.or_eq_true] at hv
      rcases hv with hv | hv
      · rw [← of_decide_eq_true hv]; exact h1
      · rw [← of_decide_eq_true hv]; exact h2
  rw [Ne, h0]
  cases p.testBit f <;> cases p.testBit t <;> simp
set_option maxRecDepth 10000 in
theorem hangs_spec {a : Option Addr} {n c : Nat} {E : List (Int × Int)} (N : Nat) (w : World) (hL : Sl (encF fE) 2 (Hp.whole w) a n c E) (hG : Gr N E) (s : Nat) (hs : s < 18446744073709551616) (hr : ∀ v, s.testBit v = true → v < N) :
    CallsE Tryz.prog 34 #[gv N a n c, .int .u64 s] w (RetV w (.bool (hanF N E s))) := by
  have hlen := hL.len
  have hEl := hG.len
  have hN := hG.hN
  obtain ⟨bef, hbef⟩ : ∃ b : Nat → Nat, b = fun r => match r with | 0 => 0 | r + 1 => hanK E s r := ⟨_, rfl⟩
  have hb0 : bef 0 = 0 := by rw [hbef]
  have hb1 : ∀ r, bef (r + 1) = hanK E s r := fun r => by rw [hbef]
  refine enter (X := cx 50) (cxg _) (args := [.agg #[.int .i64 N, .slice a n c], .int .u64 s]) [.tmp 4] Tryz.func34 rfl rfl rfl rfl rfl ?_
  intro b2
  refine nwM (y := (((18446744073709551616 - s) % 18446744073709551616 : Nat) : Int)) (by omega) ?_
  refine qAndU s ((18446744073709551616 - s) % 18446744073709551616) rfl rfl hs (by omega) ?_
  refine NeedL.mk Nat (fun r => [(1, .v (.int .u64 s)), (2, .bx 1 0), (5, .v (.int .u64 (hanK E s r : Nat))), (6, .v (.int .u64 (bef r : Nat)))]) (fun _ => [.hp (Hp.whole w), .box b2 [.int .i64 N, .slice a n c] 24])
    (fun r => r ≤ N + 1) (fun r => N + 2 - r) 0 (by omega) (Ent.mk (fun _ _ h => h) (by rw [hb0]; rfl) rfl) ?_
  rintro r hrN
  obtain ⟨p, hp⟩ : ∃ p, p = hanK E s r := ⟨_, rfl⟩
  have hp64 : p < 18446744073709551616 := by rw [hp]; exact Nat.lt_of_le_of_lt (hanK_le E s r) hs
  rw [← hp]
  refine bsplitd (fun hne => ?_) (fun heq => ?_)
  · have hrN' : r ≤ N := by
      rcases Nat.eq_zero_or_pos r with h | h
      · omega
      · obtain ⟨m, rfl⟩ : ∃ m, r = m + 1 := ⟨r - 1, by omega⟩
        rw [hb1, hp] at hne
        have := hanK_more hN hs hr (fun e => hne (by rw [e]))
        omega
    have hnx : hanK E s (r + 1) = hanP E s p := by rw [hp]; rfl
    refine NeedL.mk Nat (fun k => [(1, .v (.int .u64 s)), (2, .bx 1 0), (5, .v (.int .u64 (hanP (E.take k) s p : Nat))), (6, .v (.int .u64 p)), (19, .v (.slice a n c)), (20, .v (.int .i64 n)), (21, .v (.int .i64 k))]) (fun _ => [.hp (Hp.whole w), .box b2 [.int .i64 N, .slice a n c] 24])
      (fun k => k ≤ n) (fun k => n - k) 0 (Nat.zero_le _) (Ent.mk (fun _ _ h => h) rfl rfl) ?_
    rintro k hk
    refine bsplitd (fun hkl => ?_) (fun hkg => ?_)
    · have hlt' : k < E.length := by omega
      obtain ⟨r1, r2, r3, r4⟩ := hG.rng _ (List.getElem_mem hlt')
      have st := hanP_snoc E s p hlt'
      obtain ⟨u, hu⟩ : ∃ u, u = hanP (E.take k) s p := ⟨_, rfl⟩
      have hus : Sub u s := by rw [hu]; exact hanP_sub (by rw [hp]; exact hanK_sub E s r)
      have hu64 : u < 18446744073709551616 := Nat.lt_of_le_of_lt (sub_le hus) hs
      obtain ⟨f, hf⟩ : ∃ f, f = E[k].1.toNat := ⟨_, rfl⟩
      obtain ⟨t, ht⟩ : ∃ t, t = E[k].2.toNat := ⟨_, rfl⟩
      rw [← hu] at st
      rw [← hu]
      have st : hanP (E.take (k + 1)) s p = if s.testBit f && s.testBit t && (u.testBit f || u.testBit t) then u ||| (2 ^ f ||| 2 ^ t) else u := by rw [st, hf, ht]; rfl
      have hb64 : 2 ^ f ||| 2 ^ t < 18446744073709551616 := or_lt (pow_lt64 (by omega)) (pow_lt64 (by omega))
      refine idx (cxg _) (e := 58) rfl hL k rfl hlt' (fun b9 o9 cs hcs hQ hcell => ?_)
      subst hQ
      refine ldn (cxg _) (i := 0) rfl hcell rfl ?_
      intro b8
      refine NeedD.cut Unit (fun _ => [(1, .v (.int .u64 s)), (2, .bx 1 0), (5, .v (.int .u64 u)), (6, .v (.int .u64 p)), (9, .v (.int .u64 (2 ^ f ||| 2 ^ t : Nat))), (19, .v (.slice a n c)), (20, .v (.int .i64 n)), (21, .v (.int .i64 k))]) (fun _ => [.hp (Hp.whole w), .box b2 [.int .i64 N, .slice a n c] 24]) (fun _ => True) (NeedD.by_order (cxg _) (.take 0 <| .take 1 <| .take 2 <| .take 3 <| .take 4 <| .take 5 <| .take 6 <| .take 7 <| .done) (by kernel_rfl) ?_) ?_
      · refine qShlU f rfl (by omega) (by omega) ?_
        refine qShlU t rfl (by omega) (by omega) ?_
        refine qOrU (2 ^ f) (2 ^ t) rfl rfl (pow_lt64 (by omega)) (pow_lt64 (by omega)) ?_
        exact ⟨(), trivial, Ent.mk (fun _ _ h => h.pick [0, 1] rfl rfl) rfl rfl⟩
      rintro ⟨⟩ _ _
      dsimp only
      refine hideQ (fun q' hq' => ?_)
      refine qAndU (2 ^ f ||| 2 ^ t) s rfl rfl hb64 hs ?_
      refine bsplitd (fun h1 => ?_) (fun h1 => ?_)
      · rw [both_all.1 h1, Bool.true_and] at st
        refine qAndU (2 ^ f ||| 2 ^ t) u rfl rfl hb64 hu64 ?_
        refine hq' _ _ ?_
        refine bsplitd (fun h2 => ?_) (fun h2 => ?_)
        · rw [both_any.1 h2, if_pos rfl] at st
          refine qOrU u (2 ^ f ||| 2 ^ t) rfl rfl hu64 hb64 ?_
          refine nw (by omega) (by omega) ?_
          exact ⟨k + 1, by omega, by omega, Ent.mk (fun _ _ h => h) (by rw [st]; rfl) rfl⟩
        · rw [if_neg (fun h => h2 (both_any.2 h))] at st
          refine nw (by omega) (by omega) ?_
          exact ⟨k + 1, by omega, by omega, Ent.mk (fun _ _ h => h) (by rw [st]; rfl) rfl⟩
      · rw [if_neg (fun h => h1 (both_all.2 (by rw [Bool.and_eq_true] at h; exact h.1)))] at st
        refine hq' _ _ ?_
        refine nw (by omega) (by omega) ?_
        exact ⟨k + 1, by omega, by omega, Ent.mk (fun _ _ h => h) (by rw [st]; rfl) rfl⟩
    · rw [List.take_of_length_le (by omega)]
      exact ⟨r + 1, by omega, by omega, Ent.mk (fun _ _ h => h) (by rw [hb1, hnx, ← hp]; rfl) rfl⟩
  · have hfin : hanK E s N = p := by
      rcases Nat.eq_zero_or_pos r with h | h
      · subst h
        have hp0 : p = 0 := by rw [hb0] at heq; omega
        have hz : ∀ m, hanK E s m = 0 := fun m => by
          induction m with
          | zero => rw [← hp]; exact hp0
          | succ m ih =>
            refine Nat.eq_of_testBit_eq fun v => ?_
            show (hanP E s (hanK E s m)).testBit v = _
            rw [ih, Nat.zero_testBit]
            have hzz : ∀ (F : List (Int × Int)), hanP F s 0 = 0 := fun F => by
              induction F with
              | nil => rfl
              | cons e F ihF =>
                show hanP F s (hanS s 0 e) = 0
                have : hanS s 0 e = 0 := by unfold hanS; simp
                rw [this]; exact ihF
            rw [hzz, Nat.zero_testBit]
        rw [hz N, hp0]
      · obtain ⟨m, rfl⟩ : ∃ m, r = m + 1 := ⟨r - 1, by omega⟩
        rw [hb1] at heq
        have hpm : p = hanK E s m := by omega
        rw [hanK_stop hN hs hr (r := m) (by rw [← hp, hpm]), hpm]
    refine ⟨[], ⟨?_, rfl⟩, fun w' h => h.pick [0] rfl rfl⟩
    unfold hanF
    rw [hfin]
    congr 1
    exact decide_eq_decide.2 (by omega)
set_option maxRecDepth 10000 in
theorem together_spec {a : Option Addr} {n c : Nat} {E : List (Int × Int)} (N : Nat) (w : World) (hL : Sl (encF fE) 2 (Hp.whole w) a n c E) (hG : Gr N E) (hN : N ≤ 62) (s : Nat) (hs : s < 9223372036854775808) :
    CallsE Tryz.prog 21 #[gv N a n c, .int .i64 s] w (RetV w (.bool (hanF N E s))) := by
  have hlen := hL.len
  have hEl := hG.len
  refine enter (X := cx 69) (cxg _) (args := [.agg #[.int .i64 N, .slice a n c], .int .i64 s]) [.tmp 4] Tryz.func21 rfl rfl rfl rfl rfl ?_
  intro b2
  refine bsplitd (fun hz => ?_) (fun hz => ?_)
  · have : s = 0 := by omega
    subst this
    exact ⟨[], ⟨by rw [han_zero], rfl⟩, fun w' h => h.pick [0] rfl rfl⟩
  have hs0 : 0 < s := by omega
  have hlow : s &&& (18446744073709551616 - s) = hanK E s 0 := by
    show _ = lowN s
    unfold lowN
    rw [Nat.mod_eq_of_lt (by omega)]
  refine nw (by omega) (by omega) ?_
  refine qLowI s rfl (by omega) hs0 hs ?_
  rw [hlow]
  refine NeedL.mk Nat (fun r => [(1, .v (.int .i64 s)), (2, .bx 1 0), (5, .v (.int .i64 (hanK E s r : Nat))), (6, .v (.int .i64 r))]) (fun _ => [.hp (Hp.whole w), .box b2 [.int .i64 N, .slice a n c] 24])
    (fun r => r ≤ N) (fun r => N - r) 0 (by omega) (Ent.mk (fun _ _ h => h) rfl rfl) ?_
  rintro r hrN
  obtain ⟨p, hp⟩ : ∃ p, p = hanK E s r := ⟨_, rfl⟩
  have hp63 : p < 9223372036854775808 := by rw [hp]; exact Nat.lt_of_le_of_lt (hanK_le E s r) hs
  rw [← hp]
  refine bsplitd (fun hlt => ?_) (fun hge => ?_)
  · have hnx : hanK E s (r + 1) = hanP E s p := by rw [hp]; rfl
    refine NeedL.mk Nat (fun k => [(1, .v (.int .i64 s)), (2, .bx 1 0), (5, .v (.int .i64 (hanP (E.take k) s p : Nat))), (6, .v (.int .i64 r)), (7, .v (.int .i64 k))]) (fun _ => [.hp (Hp.whole w), .box b2 [.int .i64 N, .slice a n c] 24])
      (fun k => k ≤ n) (fun k => n - k) 0 (Nat.zero_le _) (Ent.mk (fun _ _ h => h) rfl rfl) ?_
    rintro k hk
    refine bsplitd (fun hkl => ?_) (fun hkg => ?_)
    · have hlt' : k < E.length := by omega
      obtain ⟨r1, r2, r3, r4⟩ := hG.rng _ (List.getElem_mem hlt')
      have st := hanP_snoc E s p hlt'
      obtain ⟨u, hu⟩ : ∃ u, u = hanP (E.take k) s p := ⟨_, rfl⟩
      have hus : Sub u s := by rw [hu]; exact hanP_sub (by rw [hp]; exact hanK_sub E s r)
      have hu63 : u < 9223372036854775808 := Nat.lt_of_le_of_lt (sub_le hus) hs
      obtain ⟨f, hf⟩ : ∃ f, f = E[k].1.toNat := ⟨_, rfl⟩
      obtain ⟨t, ht⟩ : ∃ t, t = E[k].2.toNat := ⟨_, rfl⟩
      rw [← hu] at st
      rw [← hu]
      have st : hanP (E.take (k + 1)) s p = if s.testBit f && s.testBit t && (u.testBit f || u.testBit t) then u ||| (2 ^ f ||| 2 ^ t) else u := by rw [st, hf, ht]; rfl
      have pf : 2 ^ f < 9223372036854775808 := pow_lt63 (by omega)
      have pt : 2 ^ t < 9223372036854775808 := pow_lt63 (by omega)
      refine NeedD.cut Unit (fun _ => [(1, .v (.int .i64 s)), (2, .bx 1 0), (5, .v (.int .i64 u)), (6, .v (.int .i64 r)), (7, .v (.int .i64 k)), (8, .v (.int .i64 (2 ^ f &&& s : Nat))), (9, .v (.int .i64 (2 ^ t &&& s : Nat)))]) (fun _ => [.hp (Hp.whole w), .box b2 [.int .i64 N, .slice a n c] 24]) (fun _ => True) (NeedD.by_order (cxg _) (.take 0 <| .take 1 <| .take 2 <| .take 3 <| .take 4 <| .take 5 <| .take 6 <| .take 7 <| .take 8 <| .take 9 <| .take 10 <| .take 11 <| .take 12 <| .take 13 <| .take 14 <| .take 15 <| .take 16 <| .take 17 <| .take 18 <| .take 19 <| .done) (by kernel_rfl) ?_) ?_
      · refine idx (cxg _) (e := 58) rfl hL k rfl hlt' (fun b9 o9 cs hcs hQ hcell => ?_)
        subst hQ
        refine ld1 (cxg _) (i := 0) rfl (hcell 0 _ rfl) rfl ?_
        refine qShlI f rfl (by omega) (by omega) ?_
        refine qAndI (2 ^ f) s rfl rfl pf hs ?_
        refine idx (cxg _) (e := 58) rfl hL k rfl hlt' (fun b9 o9 cs hcs hQ hcell => ?_)
        subst hQ
        refine ld1 (cxg _) (i := 0) rfl (hcell 1 _ rfl) rfl ?_
        refine qShlI t rfl (by omega) (by omega) ?_
        refine qAndI (2 ^ t) s rfl rfl pt hs ?_
        exact ⟨(), trivial, Ent.mk (fun _ _ h => h) rfl rfl⟩
      rintro ⟨⟩ _ _
      dsimp only
      have no : ¬ (s.testBit f = true ∧ s.testBit t = true) → hanP (E.take (k + 1)) s p = u := fun h => by
        rw [st, if_neg (fun h' => h (by rw [Bool.and_eq_true, Bool.and_eq_true] at h'; exact h'.1))]
      refine hideQ (fun q' hq' => ?_)
      refine bsplitd (fun h1 => ?_) (fun h1 => ?_)
      · have s1 := and_pow0.1 h1
        refine bsplitd (fun h2 => ?_) (fun h2 => ?_)
        · have s2 := and_pow0.1 h2
          have g1 : 2 ^ f &&& s = 2 ^ f := by rw [and_pow, if_pos s1]
          have g2 : 2 ^ t &&& s = 2 ^ t := by rw [and_pow, if_pos s2]
          rw [s1, s2, Bool.true_and, Bool.true_and] at st
          refine qOrI (2 ^ f) (2 ^ t) (by rw [g1]) (by rw [g2]) pf pt ?_
          refine qAndI u (2 ^ f ||| 2 ^ t) rfl rfl hu63 (or_lt63 pf pt) ?_
          refine hq' _ _ ?_
          refine bsplitd (fun h3 => ?_) (fun h3 => ?_)
          · rw [Nat.and_comm] at h3
            rw [both_any.1 h3, if_pos rfl] at st
            refine qOrI (2 ^ f) (2 ^ t) (by rw [g1]) (by rw [g2]) pf pt ?_
            refine qOrI u (2 ^ f ||| 2 ^ t) rfl rfl hu63 (or_lt63 pf pt) ?_
            refine nw (by omega) (by omega) ?_
            exact ⟨k + 1, by omega, by omega, Ent.mk (fun _ _ h => h) (by rw [st]; rfl) rfl⟩
          · rw [Nat.and_comm] at h3
            rw [if_neg (fun h => h3 (both_any.2 h))] at st
            refine nw (by omega) (by omega) ?_
            exact ⟨k + 1, by omega, by omega, Ent.mk (fun _ _ h => h) (by rw [st]; rfl) rfl⟩
        · have st := no fun h => h2 (and_pow0.2 h.2)
          refine hq' _ _ ?_
          refine nw (by omega) (by omega) ?_
          exact ⟨k + 1, by omega, by omega, Ent.mk (fun _ _ h => h) (by rw [st]; rfl) rfl⟩
      · have st := no fun h => h1 (and_pow0.2 h.1)
        refine hq' _ _ ?_
        refine nw (by omega) (by omega) ?_
        exact ⟨k + 1, by omega, by omega, Ent.mk (fun _ _ h => h) (by rw [st]; rfl) rfl⟩
    · rw [List.take_of_length_le (by omega)]
      refine nw (by omega) (by omega) ?_
      exact ⟨r + 1, by omega, by omega, Ent.mk (fun _ _ h => h) (by rw [hnx]; rfl) rfl⟩
  · have hpN : p = hanK E s N := by rw [hp, show r = N by omega]
    refine ⟨[], ⟨?_, rfl⟩, fun w' h => h.pick [0] rfl rfl⟩
    unfold hanF
    rw [← hpN]
    congr 1
    exact decide_eq_decide.2 (by omega)
end Go.Proofs.YtbcjdjlihhlkaaaGreatDoor
namespace Go.Proofs.YtbcjdjlihhlkaaaGreatDoor
open Go Go.RowKit Go.Dw
theorem first_or {p : Nat → Bool} (L : List Nat) : ∀ m, m ≤ L.length → (∀ y ∈ L.take m, p y = false) ∨ ∃ k, ∃ hk : k < L.length, (∀ y ∈ L.take k, p y = false) ∧ p L[k] = true
  | 0, _ => .inl (by simp)
  | m + 1, hm => by
    rcases first_or L m (by omega) with h | h
    · cases hp : p (L[m]'(by omega)) with
      | true => exact .inr ⟨m, by omega, h, hp⟩
      | false =>
        refine .inl fun y hy => ?_
        rw [List.take_succ_eq_append_getElem (by omega)] at hy
        rcases List.mem_append.1 hy with hy | hy
        · exact h y hy
        · rw [List.mem_singleton.1 hy]; exact hp
    · exact .inr h
theorem indexFuncS_spec {a : Option Addr} {n c : Nat} {L : List Nat} (g : Nat) (c1 c2 : Value) (p : Nat → Bool) (w : World) (hL : Sl (encF fU) 1 (Hp.whole w) a n c L) (hn : n < 1000000000)
    (hp : ∀ w', (Hp.whole w).In w' → ∀ x ∈ L, CallsE Tryz.prog g #[.int .u64 (x : Nat), c1, c2] w' (RetV w' (.bool (p x)))) :
    CallsE Tryz.prog 69 #[.slice a n c, .func (.func g) #[] #[c1, c2]] w (RetV w (.int .i64 (idxBy p L))) := by
  have hlen := hL.len
  refine enter (X := cx 19) (cxg _) (args := [.slice a n c, .func (.func g) #[] #[c1, c2]]) [.tmp 4] Tryz.func69 rfl rfl rfl rfl rfl ?_
  refine NeedL.mk Nat (fun k => [(0, .v (.slice a n c)), (1, .v (.func (.func g) #[] #[c1, c2])), (7, .v (.int .i64 n)), (8, .v (.int .i64 k))]) (fun _ => [.hp (Hp.whole w)])
    (fun k => k ≤ n ∧ ∀ y ∈ L.take k, p y = false) (fun k => n - k) 0 ⟨Nat.zero_le _, by simp⟩ (Ent.mk (fun _ _ h => h) rfl rfl) ?_
  rintro k ⟨hk, ho⟩
  refine bsplitd (fun hlt => ?_) (fun hge => ?_)
  · have hlt' : k < L.length := by omega
    refine idx (cxg _) (e := 62) rfl hL k rfl hlt' (fun b o cs hcs hR hcell => ?_)
    subst hR
    refine ld1 (cxg _) (i := 0) rfl (hcell 0 _ rfl) rfl ?_
    refine callV (.bool (p L[k])) (fun w' hm => hp w' (hm 0 _ rfl) L[k] (List.getElem_mem hlt')) ?_
    refine bsplit (fun hb => ?_) (fun hb => ?_)
    · exact ⟨[], ⟨by rw [idxBy_hit p L k hlt' ho hb], rfl⟩, fun w' h => h.pick [0] rfl rfl⟩
    · refine nw (by omega) (by omega) ?_
      exact ⟨k + 1, ⟨by omega, take_all_step hlt' ho hb⟩, by omega, Ent.mk (fun _ _ h => h) rfl rfl⟩
  · exact ⟨[], ⟨by rw [idxBy_none p L k (by omega) ho], rfl⟩, fun w' h => h.pick [0] rfl rfl⟩
theorem filter_not {p : Nat → Bool} {L : List Nat} (h : ∀ y ∈ L, p y = false) : L.filter (fun y => !p y) = L := List.filter_eq_self.2 fun y hy => by rw [h y hy]; rfl
set_option maxRecDepth 10000 in
theorem deleteS_spec {o : Dw.Os} {L : List Nat} (g : Nat) (c1 c2 : Value) (p : Nat → Bool) (w : World) (hin : o.h.In w) (ho : OwnO fU 62 1 o L) (hl : L.length < 1000000)
    (hp : ∀ w', ((Hp.whole w).minus o.h).In w' → ∀ x ∈ L, CallsE Tryz.prog g #[.int .u64 (x : Nat), c1, c2] w' (RetV w' (.bool (p x)))) :
    CallsE Tryz.prog 54 #[o.v, .func (.func g) #[] #[c1, c2]] w (RetM w o.h fun v h' cs => ∃ o', v = o'.v ∧ o'.h = h' ∧ cs = [] ∧ OwnO fU 62 1 o' (L.filter fun y => !p y)) := by
  have hn := ho.len
  have hf : ∀ x : Nat, (fU x).length = 1 := fun _ => rfl
  have hs := OwnO.sl hf (by decide) ho
  have hcap := hs.cap
  refine enterM (X := cx 42) (cxg _) (args := [o.v, .func (.func g) #[] #[c1, c2]]) hin [.tmp 4] Tryz.func54 rfl rfl rfl rfl rfl ?_
  have kI := fun (w' : World) (h : Sl (encF fU) 1 (Hp.whole w') o.a o.n o.c L) (h2 : ((Hp.whole w).minus o.h).In w') => indexFuncS_spec g c1 c2 p w' h (by omega) (fun w2 h3 => hp w2 (fun b x e => h3 b x (h2 b x e)))
  rcases first_or (p := p) L L.length (Nat.le_refl _) with hnone | ⟨i0, hi0, hall, hp0⟩
  · rw [List.take_of_length_le (Nat.le_refl _)] at hnone
    rw [idxBy_none p L L.length (Nat.le_refl _) (by rw [List.take_of_length_le (Nat.le_refl _)]; exact hnone)] at kI
    refine callV _ (fun w' hm => kI w' (hs.mono (encF_mono _) (hm 1 _ rfl)) (hm 0 _ rfl)) ?_
    exact ⟨o.h, [], ⟨o, rfl, rfl, rfl, by rw [filter_not hnone]; exact ho⟩, fun w' h => h⟩
  rw [idxBy_hit p L i0 hi0 hall hp0] at kI
  refine callV _ (fun w' hm => kI w' (hs.mono (encF_mono _) (hm 1 _ rfl)) (hm 0 _ rfl)) ?_
  refine nw (by omega) (by omega) ?_
  obtain ⟨b, hb⟩ : ∃ b, o.a = some ⟨b, 0, none⟩ := by
    rcases ho.2.2 with ⟨h0, _⟩ | ⟨b, _, h1, _⟩
    · omega
    · exact ⟨b, h1⟩
  refine NeedL.mk (Nat × Nat × Dw.Os × List Nat) (fun g' => [(0, .v o.v), (1, .v (.func (.func g) #[] #[c1, c2])), (5, .v (.int .i64 g'.1)), (6, .v (.int .i64 (i0 + 1 + g'.2.1 : Nat)))]) (fun g' => [.hp ((Hp.whole w).minus o.h), .hp g'.2.2.1.h])
    (fun g' => g'.2.2.1.a = o.a ∧ g'.2.2.1.n = o.n ∧ g'.2.2.1.c = o.c ∧ OwnO fU 62 1 g'.2.2.1 g'.2.2.2 ∧ g'.1 ≤ i0 + g'.2.1 ∧ i0 + 1 + g'.2.1 ≤ o.n ∧ g'.2.2.2.take g'.1 = (L.take (i0 + 1 + g'.2.1)).filter (fun y => !p y) ∧ g'.2.2.2.drop (i0 + 1 + g'.2.1) = L.drop (i0 + 1 + g'.2.1)) (fun g' => o.n - g'.2.1) (i0, 0, o, L)
    ⟨rfl, rfl, rfl, ho, by dsimp only; omega, by dsimp only; omega, ?_, rfl⟩ (Ent.mk (fun _ _ h => h) rfl rfl) ?_
  · dsimp only
    rw [Nat.add_zero, List.take_succ_eq_append_getElem hi0, List.filter_append, filter_not hall]
    simp [hp0]
  rintro ⟨i, j, o2, M⟩ ⟨ha2, hn2, hc2, ho2, hij, hjn, hM1, hM2⟩
  dsimp only at *
  have hM := ho2.len
  have hs2 := OwnO.sl hf (by decide) ho2
  have hov : o.v = o2.v := by simp only [Os.v, ha2, hn2, hc2]
  refine bsplitd (fun hlt => ?_) (fun hge => ?_)
  · have hj : i0 + 1 + j < L.length := by omega
    have hjM : i0 + 1 + j < M.length := by omega
    have hiM : i < M.length := by omega
    have hg : M[i0 + 1 + j] = L[i0 + 1 + j] := by
      have h1 := congrArg (·[0]?) hM2
      simp only [List.getElem?_drop, Nat.add_zero] at h1
      rw [List.getElem?_eq_getElem hj, List.getElem?_eq_getElem hjM] at h1
      exact Option.some.inj h1
    have hM3 : M.drop (i0 + 1 + (j + 1)) = L.drop (i0 + 1 + (j + 1)) := by
      have h1 := congrArg (List.drop 1) hM2
      rw [List.drop_drop, List.drop_drop] at h1
      exact h1
    have hst : (L.take (i0 + 1 + (j + 1))).filter (fun y => !p y) = (L.take (i0 + 1 + j)).filter (fun y => !p y) ++ (if p L[i0 + 1 + j] then [] else [L[i0 + 1 + j]]) := by
      rw [show i0 + 1 + (j + 1) = (i0 + 1 + j) + 1 by omega, List.take_succ_eq_append_getElem hj, List.filter_append]
      cases hq : p L[i0 + 1 + j] <;> simp [hq]
    have kp := fun (w' : World) (hm : ((Hp.whole w).minus o.h).In w') => hp w' hm L[i0 + 1 + j] (List.getElem_mem hj)
    rw [← hg] at kp hst
    rw [hov]
    refine idx (cxg _) (e := 62) rfl hs2 (i0 + 1 + j) rfl hjM (fun b9 o9 cs hcs hR hcell => ?_)
    subst hR
    refine ld1 (cxg _) (i := 1) rfl (hcell 0 _ rfl) rfl ?_
    refine callV _ (fun w' hm => kp w' (hm 0 _ rfl)) ?_
    refine bsplit (fun hq => ?_) (fun hq => ?_)
    · have hq : p M[i0 + 1 + j] = false := by simpa using hq
      rw [hq, if_neg (by decide)] at hst
      refine oidx1 (cxg _) (e := 62) rfl rfl ho2 i rfl hiM fun b3 hb3 => ?_
      refine osto (g := fun x : Nat => Value.int .u64 x) (fun _ => rfl) (cxg _) (i := 1) rfl hb3 ho2 hiM rfl rfl M[i0 + 1 + j] rfl rfl rfl fun o3 e1 e2 e3 ho3 => ?_
      refine nw (by omega) (by omega) ?_
      refine nw (by omega) (by omega) ?_
      refine ⟨(i + 1, j + 1, o3, M.set i M[i0 + 1 + j]), ⟨by dsimp only; rw [e1, ha2], by dsimp only; rw [e2, hn2], by dsimp only; rw [e3, hc2], ho3, by dsimp only; omega, by dsimp only; omega, ?_, ?_⟩, by dsimp only; omega, Ent.mk (fun _ _ h => h) rfl rfl⟩
      · dsimp only
        rw [hst, ← hM1, List.take_succ_eq_append_getElem (by simpa using hiM), List.take_set_of_le (Nat.le_refl _), List.getElem_set_self]
      · dsimp only
        rw [List.drop_set_of_lt (by omega)]
        exact hM3
    · have hq : p M[i0 + 1 + j] = true := by simpa using hq
      rw [hq, if_pos rfl, List.append_nil] at hst
      refine nw (by omega) (by omega) ?_
      exact ⟨(i, j + 1, o2, M), ⟨ha2, hn2, hc2, ho2, by dsimp only; omega, by dsimp only; omega, by dsimp only; rw [hst]; exact hM1, hM3⟩, by dsimp only; omega, Ent.mk (fun _ _ h => h) rfl rfl⟩
  · have hfin : M.take i = L.filter fun y => !p y := by rw [hM1, List.take_of_length_le (by omega)]
    have hiM : i < M.length := by omega
    refine slO (cxg _) (e := 62) rfl hb i rfl (by omega) hcap ?_
    rw [← hn2]
    refine clrO (cxg _) (e := 62) rfl hf (i := 1) rfl (by rw [ha2]; exact hb) ho2 hiM rfl fun h' ho' => ?_
    refine slT (cxg _) (e := 62) rfl i rfl (by omega) ?_
    refine ⟨h', [], ⟨⟨o2.a, i, o2.c, h'⟩, by rw [ha2, hc2]; rfl, rfl, rfl, ?_⟩, fun w' h => h⟩
    rw [← hfin]; exact ho'
/-! ### pair -/
def pairE (N : Int) (E : List (Int × Int)) (N' : Int) (E' : List (Int × Int)) (most without : Int) : Int := if checkF N E ≠ 0 then checkF N E else if checkF N' E' ≠ 0 then checkF N' E' else if N ≠ N' then 13 else resE N E most without
def pairZ (e : Int) (v : Int) : Int := if e = 0 then v else 0
theorem pair_spec {a a' : Option Addr} {n c n' c' : Nat} {E E' : List (Int × Int)} (N N' most without : Int) (w : World) (hL : Sl (encF fE) 2 (Hp.whole w) a n c E) (hL' : Sl (encF fE) 2 (Hp.whole w) a' n' c' E') :
    CallsE Tryz.prog 53 #[gv N a n c, gv N' a' n' c', .int .i64 most, .int .i64 without] w (RetV w (.tuple #[.agg #[.int .u64 (pairZ (pairE N E N' E' most without) (allN N.toNat : Nat)), .int .i64 (pairZ (pairE N E N' E' most without) most), .int .i64 (pairZ (pairE N E N' E' most without) without)], .int .i64 (pairE N E N' E' most without)])) := by
  obtain ⟨e, he⟩ : ∃ e, e = pairE N E N' E' most without := ⟨_, rfl⟩
  rw [← he]
  have hz : e ≠ 0 → ∀ v, pairZ e v = 0 := fun h v => by unfold pairZ; rw [if_neg h]
  unfold pairE at he
  refine enter (X := cx 36) (cxg _) (args := [.agg #[.int .i64 N, .slice a n c], .agg #[.int .i64 N', .slice a' n' c'], .int .i64 most, .int .i64 without]) [.cell 8 64, .tmp 9] Tryz.func53 rfl rfl rfl rfl rfl ?_
  intro b4 b5 b8
  refine callV _ (fun w' hm => check_spec N w' (hL.mono (encF_mono _) (hm 0 _ rfl))) ?_
  refine bsplitd (fun h1 => ?_) (fun h1 => ?_)
  · rw [if_pos h1] at he
    have h1 : e ≠ 0 := by rw [he]; exact h1
    exact ⟨[], ⟨by rw [hz h1, hz h1, hz h1, he], rfl⟩, fun w' h => h.pick [0] rfl rfl⟩
  rw [if_neg h1] at he
  refine callV _ (fun w' hm => check_spec N' w' (hL'.mono (encF_mono _) (hm 0 _ rfl))) ?_
  refine bsplitd (fun h2 => ?_) (fun h2 => ?_)
  · rw [if_pos h2] at he
    have h2 : e ≠ 0 := by rw [he]; exact h2
    exact ⟨[], ⟨by rw [hz h2, hz h2, hz h2, he], rfl⟩, fun w' h => h.pick [0] rfl rfl⟩
  rw [if_neg h2] at he
  refine bsplitd (fun h3 => ?_) (fun h3 => ?_)
  · rw [if_pos h3] at he
    have h3 : e ≠ 0 := by rw [he]; decide
    exact ⟨[], ⟨by rw [hz h3, hz h3, hz h3, he], rfl⟩, fun w' h => h.pick [0] rfl rfl⟩
  rw [if_neg h3] at he
  refine callV _ (fun w' hm => restricted_spec N most without w' (hL.mono (encF_mono _) (hm 0 _ rfl))) ?_
  refine ⟨[], ⟨?_, rfl⟩, fun w' h => h.pick [0] rfl rfl⟩
  unfold pairZ resA resM resX
  rw [he]
  split <;> rfl
/-! ### the closures -/
theorem chosen1_spec {bk bl kf : Nat} {cp : Value} {all : Nat} {x : Nat} {r : Bool} (w : World) (h1 : (Hp.whole w).cell? ⟨bk, 0, none⟩ = some (.func (.func kf) #[] #[cp])) (h2 : (Hp.whole w).cell? ⟨bl, 0, none⟩ = some (.int .u64 all))
    (hk : ∀ w', (Hp.whole w).In w' → CallsE Tryz.prog kf #[.int .u64 (x : Nat), .int .u64 (all : Nat), cp] w' (RetV w' (.bool r))) :
    CallsE Tryz.prog 55 #[.int .u64 (x : Nat), .pointer (some ⟨bk, 0, none⟩), .pointer (some ⟨bl, 0, none⟩)] w (RetV w (.bool (!r))) := by
  refine enter (X := cx 11) (cxg _) (args := [.int .u64 (x : Nat), .pointer (some ⟨bk, 0, none⟩), .pointer (some ⟨bl, 0, none⟩)]) [.tmp 4] Tryz.func55 rfl rfl rfl rfl rfl ?_
  refine ld1 (cxg _) (i := 0) rfl h1 rfl ?_
  refine ld1 (cxg _) (i := 0) rfl h2 rfl ?_
  refine callV _ (fun w' hm => hk w' (hm 0 _ rfl)) ?_
  exact ⟨[], ⟨rfl, rfl⟩, fun w' h => h⟩
end Go.Proofs.YtbcjdjlihhlkaaaGreatDoor
namespace Go.Proofs.YtbcjdjlihhlkaaaGreatDoor
open Go Go.RowKit Go.Dw
def choR (N : Int) (E : List (Int × Int)) (N' : Int) (E' : List (Int × Int)) (most without : Int) (q : Nat → Bool) : List (List Int) := if pairE N E N' E' most without = 0 then ((canL N.toNat E most without).filter q).map nod else []
set_option maxRecDepth 10000 in
theorem choose_spec {a a' : Option Addr} {n c n' c' : Nat} {E E' : List (Int × Int)} (N N' most without : Int) (w : World) (hL : Sl (encF fE) 2 (Hp.whole w) a n c E) (hL' : Sl (encF fE) 2 (Hp.whole w) a' n' c' E') (hN7 : checkF N E = 0 → N ≤ 7) (hT : Tab (Hp.whole w))
    (kf : Nat) (cp : Value) (q : Nat → Bool)
    (hk : pairE N E N' E' most without = 0 → ∀ w', (Hp.whole w).In w' → ∀ x ∈ canL N.toNat E most without, CallsE Tryz.prog kf #[.int .u64 (x : Nat), .int .u64 (allN N.toNat : Nat), cp] w' (RetV w' (.bool (q x)))) :
    CallsE Tryz.prog 32 #[gv N a n c, gv N' a' n' c', .int .i64 most, .int .i64 without, .func (.func kf) #[] #[cp]] w (RetR w (choR N E N' E' most without q) (pairE N E N' E' most without)) := by
  obtain ⟨e, he⟩ : ∃ e, e = pairE N E N' E' most without := ⟨_, rfl⟩
  have kP := fun (w' : World) (h : Sl (encF fE) 2 (Hp.whole w') a n c E) (h' : Sl (encF fE) 2 (Hp.whole w') a' n' c' E') => pair_spec N N' most without w' h h'
  rw [← he] at kP hk ⊢
  have hch : choR N E N' E' most without q = if e = 0 then ((canL N.toNat E most without).filter q).map nod else [] := by rw [he]; rfl
  rw [hch]
  refine enter (X := cx 37) (cxg _) (args := [.agg #[.int .i64 N, .slice a n c], .agg #[.int .i64 N', .slice a' n' c'], .int .i64 most, .int .i64 without, .func (.func kf) #[] #[cp]]) [.tmp 10, .tmp 11] Tryz.func32 rfl rfl rfl rfl rfl ?_
  intro b5 b6 b9
  refine callV _ (fun w' hm => kP w' (hL.mono (encF_mono _) (hm 0 _ rfl)) (hL'.mono (encF_mono _) (hm 0 _ rfl))) ?_
  intro b12
  refine bsplitd (fun h => ?_) (fun h => ?_)
  · refine ⟨[.hp Hp.emp], ⟨none, 0, 0, Hp.emp, rfl, rfl, ?_⟩, fun w' h => (h.pick [0] rfl rfl).emp⟩
    rw [if_neg h]; exact Sl.nil _ _ _ _ _
  have he0 : e = 0 := Decidable.not_not.1 h
  have hk := hk he0
  have hz : ∀ v, pairZ e v = v := fun v => by unfold pairZ; rw [if_pos he0]
  rw [hz, hz, hz]
  have hres : resE N E most without = 0 := by
    rw [he] at he0
    unfold pairE at he0
    split at he0
    · rename_i h1; exact absurd he0 h1
    · split at he0
      · rename_i h1; exact absurd he0 h1
      · split at he0
        · cases he0
        · exact he0
  obtain ⟨h0, hm0, hw1, hw2⟩ := resE_ok hres
  have hN7 := hN7 h0
  obtain ⟨M, rfl, hG, _⟩ := checkF_ok h0
  have hM7 : M ≤ 7 := by omega
  rw [Int.toNat_natCast] at *
  have hcan : canL M E most without = srtS (bfsF (alwF (allN M) most without) (hulF M E)) (bfsF_lt (hul_lt hM7)) := by unfold canL; rw [dif_pos hM7]
  refine normS [.hp (Hp.whole w), .box b5 [.int .i64 M, .slice a n c] 24, .box b6 [.int .i64 N', .slice a' n' c'] 24, .box b9 [.func (.func kf) #[] #[cp]] 77, .box b12 [.int .u64 (allN M : Nat), .int .i64 most, .int .i64 without] 64] rfl ?_
  refine callS (fun w' hm => sets_spec M (allN M) most without w' (hL.mono (encF_mono _) (hm 0 _ rfl)) hG h0 hM7 (by omega) (hT.mono (hm 0 _ rfl))) ?_
  rintro _ _ ⟨o, rfl, rfl, ho⟩ hsat
  rw [← hcan] at ho
  have hol := ho.len
  have hcl := canL_len M E most without
  refine hideQ (fun _ h => h _ _ ?_)
  refine normS [.hp (Hp.whole w), .box b5 [.int .i64 M, .slice a n c] 24, .box b6 [.int .i64 N', .slice a' n' c'] 24, .box b9 [.func (.func kf) #[] #[cp]] 77, .box b12 [.int .u64 (allN M : Nat), .int .i64 most, .int .i64 without] 64, .hp o.h] rfl ?_
  refine callM (i := 5) rfl (fun w' hm => deleteS_spec 55 (.pointer (some ⟨b9, 0, none⟩)) (.pointer (some ⟨b12, 0, none⟩)) (fun x => !q x) w' (hm 5 _ rfl) ho (by omega) (fun w2 h2 x hx => ?_)) ?_
  · have l0 : (Hp.whole w).le (Hp.whole w2) := (Hp.le_minus (hm 0 _ rfl).whole (hsat.dj 0 5 rfl rfl (by decide))).trans h2.whole
    have l9 := (Hp.le_minus (hm 3 _ rfl).whole (hsat.dj 3 5 rfl rfl (by decide))).trans h2.whole
    have l12 := (Hp.le_minus (hm 4 _ rfl).whole (hsat.dj 4 5 rfl rfl (by decide))).trans h2.whole
    exact chosen1_spec w2 (l9.cell (by simp [Ch.h, Hp.cell?, Hp.one])) (l12.cell (by simp [Ch.h, Hp.cell?, Hp.one])) (fun w3 h3 => hk w3 (fun b y e => h3 b y (l0 b y e)) x hx)
  rintro _ h2 _ ⟨o2, rfl, rfl, rfl, ho2⟩
  simp only [Bool.not_not] at ho2
  have so := OwnO.sl (f := fU) (fun _ => rfl) (by decide) ho2
  have hol2 := ho2.len
  have hfl : ((canL M E most without).filter fun y => q y).length ≤ (canL M E most without).length := List.length_filter_le _ _
  refine call (fun w' hm => listsS_spec w' (so.mono (encF_mono _) (hm 5 _ rfl)) (fun x hx => by have := canL_lt M E most without x (List.mem_filter.1 hx).1; omega) (by omega) (hT.mono (hm 0 _ rfl))) ?_
  rintro _ _ ⟨a', n', c', h', rfl, rfl, hs⟩
  refine ⟨[.hp h'], ⟨a', n', c', h', by rw [he0], rfl, ?_⟩, fun w' h => h.pick [0, 6] rfl rfl⟩
  rw [if_pos he0]; exact hs
end Go.Proofs.YtbcjdjlihhlkaaaGreatDoor
namespace Go.Proofs.YtbcjdjlihhlkaaaGreatDoor
open Go Go.RowKit Go.Dw
theorem pair_ok {N N' : Int} {E E' : List (Int × Int)} {most without : Int} (h : pairE N E N' E' most without = 0) : checkF N E = 0 ∧ checkF N' E' = 0 ∧ N = N' ∧ resE N E most without = 0 := by
  unfold pairE at h
  split at h
  · rename_i h1; exact absurd h h1
  · rename_i h1
    split at h
    · rename_i h2; exact absurd h h2
    · rename_i h2
      split at h
      · cases h
      · rename_i h3
        exact ⟨Decidable.not_not.1 h1, Decidable.not_not.1 h2, Decidable.not_not.1 h3, h⟩
theorem canL_bits {M : Nat} {E : List (Int × Int)} {most without : Int} (hG : Gr M E) (hM : M ≤ 7) {x : Nat} (hx : x ∈ canL M E most without) : x < 128 ∧ ∀ v, x.testBit v = true → v < M := by
  unfold canL at hx
  rw [dif_pos hM] at hx
  have hx := (srtS_mem _).1 hx
  exact ⟨bfsF_lt (hul_lt hM) x hx, ((mem_bfs hG hM (alwF_her hM most without)).1 hx).2.2.2⟩
theorem connected1_spec {bl : Nat} {a : Option Addr} {n c : Nat} {E : List (Int × Int)} {N x all : Nat} (w : World) (h1 : (Hp.whole w).cell? ⟨bl, 0, none⟩ = some (.int .i64 N)) (h2 : (Hp.whole w).cell? ⟨bl, 1, none⟩ = some (.slice a n c)) (hL : Sl (encF fE) 2 (Hp.whole w) a n c E) (hG : Gr N E)
    (hx : x < 18446744073709551616) (hr : ∀ v, x.testBit v = true → v < N) :
    CallsE Tryz.prog 33 #[.int .u64 (x : Nat), .int .u64 (all : Nat), .pointer (some ⟨bl, 0, none⟩)] w (RetV w (.bool (hanF N E x))) := by
  refine enter (X := cx 9) (cxg _) (args := [.int .u64 (x : Nat), .int .u64 (all : Nat), .pointer (some ⟨bl, 0, none⟩)]) [.tmp 5] Tryz.func33 rfl rfl rfl rfl rfl ?_
  refine ldn (cxg _) (i := 0) (cs := [.int .i64 N, .slice a n c]) rfl (fun j v hj => by
    match j, hj with
    | 0, hj => cases hj; exact h1
    | 1, hj => cases hj; exact h2) rfl ?_
  refine callV _ (fun w' hm => hangs_spec N w' (hL.mono (encF_mono _) (hm 0 _ rfl)) hG x hx hr) ?_
  exact ⟨[], ⟨rfl, rfl⟩, fun w' h => h⟩
def halF (N : Nat) (E : List (Int × Int)) (all x : Nat) : Bool := hanF N E x && hanF N E (all &&& (18446744073709551615 - x))
theorem halves1_spec {bl : Nat} {a : Option Addr} {n c : Nat} {E : List (Int × Int)} {N x all : Nat} (w : World) (h1 : (Hp.whole w).cell? ⟨bl, 0, none⟩ = some (.int .i64 N)) (h2 : (Hp.whole w).cell? ⟨bl, 1, none⟩ = some (.slice a n c)) (hL : Sl (encF fE) 2 (Hp.whole w) a n c E) (hG : Gr N E)
    (hx : x < 18446744073709551616) (hr : ∀ v, x.testBit v = true → v < N) (ha : all < 18446744073709551616) (hra : ∀ v, all.testBit v = true → v < N) :
    CallsE Tryz.prog 44 #[.int .u64 (x : Nat), .int .u64 (all : Nat), .pointer (some ⟨bl, 0, none⟩)] w (RetV w (.bool (halF N E all x))) := by
  have hy : all &&& (18446744073709551615 - x) < 18446744073709551616 := Nat.lt_of_le_of_lt Nat.and_le_left ha
  have hry : ∀ v, (all &&& (18446744073709551615 - x)).testBit v = true → v < N := fun v hv => by
    rw [Nat.testBit_and, Bool.and_eq_true] at hv; exact hra v hv.1
  have hcell : ∀ (j : Nat) v, [Value.int .i64 N, .slice a n c][j]? = some v → (Hp.whole w).cell? ⟨bl, 0 + j, none⟩ = some v := fun j v hj => by
    match j, hj with
    | 0, hj => cases hj; exact h1
    | 1, hj => cases hj; exact h2
  have hhal : halF N E all x = (hanF N E x && hanF N E (all &&& (18446744073709551615 - x))) := rfl
  refine enter (X := cx 16) (cxg _) (args := [.int .u64 (x : Nat), .int .u64 (all : Nat), .pointer (some ⟨bl, 0, none⟩)]) [.tmp 5] Tryz.func44 rfl rfl rfl rfl rfl ?_
  refine ldn (cxg _) (i := 0) (cs := [.int .i64 N, .slice a n c]) rfl hcell rfl ?_
  refine callV _ (fun w' hm => hangs_spec N w' (hL.mono (encF_mono _) (hm 0 _ rfl)) hG x hx hr) ?_
  refine bsplit (fun hb => ?_) (fun hb => ?_)
  · rw [hb, Bool.true_and] at hhal
    refine ldn (cxg _) (i := 0) (cs := [.int .i64 N, .slice a n c]) rfl hcell rfl ?_
    refine qAndNotU all x rfl rfl ha hx ?_
    refine callV _ (fun w' hm => hangs_spec N w' (hL.mono (encF_mono _) (hm 0 _ rfl)) hG _ hy hry) ?_
    exact ⟨[], ⟨by rw [hhal], rfl⟩, fun w' h => h⟩
  · rw [hb, Bool.false_and] at hhal
    exact ⟨[], ⟨by rw [hhal], rfl⟩, fun w' h => h⟩
def coF (N' : Int) (E' : List (Int × Int)) (x : Nat) : Bool := hanF N'.toNat E' x
theorem Connected_spec {a a' : Option Addr} {n c n' c' : Nat} {E E' : List (Int × Int)} (N N' most without : Int) (w : World) (hL : Sl (encF fE) 2 (Hp.whole w) a n c E) (hL' : Sl (encF fE) 2 (Hp.whole w) a' n' c' E') (hN7 : checkF N E = 0 → N ≤ 7) (hT : Tab (Hp.whole w)) :
    CallsE Tryz.prog 12 #[gv N a n c, gv N' a' n' c', .int .i64 most, .int .i64 without] w (RetR w (choR N E N' E' most without (coF N' E')) (pairE N E N' E' most without)) := by
  obtain ⟨e, he⟩ : ∃ e, e = pairE N E N' E' most without := ⟨_, rfl⟩
  obtain ⟨R, hR⟩ : ∃ e, e = choR N E N' E' most without (coF N' E') := ⟨_, rfl⟩
  rw [← he, ← hR]
  refine enter (X := cx 18) (cxg _) (args := [.agg #[.int .i64 N, .slice a n c], .agg #[.int .i64 N', .slice a' n' c'], .int .i64 most, .int .i64 without]) [.tmp 8, .tmp 9] Tryz.func12 rfl rfl rfl rfl rfl ?_
  intro b4 b5
  refine call (R := fun v cs => ∃ a n c h, v = .tuple #[.slice a n c, .int .i64 e] ∧ cs = [.hp h] ∧ Sl (encS (encF fI) 1) 1 h a n c R) (fun w' hm => ?_) ?_
  · rw [he, hR]
    refine choose_spec N N' most without w' (hL.mono (encF_mono _) (hm 0 _ rfl)) (hL'.mono (encF_mono _) (hm 0 _ rfl)) hN7 (hT.mono (hm 0 _ rfl)) 33 (.pointer (some ⟨b5, 0, none⟩)) (coF N' E') (fun hp w2 h2 x hx => ?_)
    obtain ⟨p1, p2, p3, p4⟩ := pair_ok hp
    have p7 := hN7 p1
    subst p3
    obtain ⟨M, rfl, hG, _⟩ := checkF_ok p1
    obtain ⟨M', hM', hG', _⟩ := checkF_ok p2
    obtain rfl : M = M' := by omega
    rw [Int.toNat_natCast] at *
    obtain ⟨hx1, hx2⟩ := canL_bits hG (by omega) hx
    have l0 : (Hp.whole w).le (Hp.whole w2) := (hm 0 _ rfl).whole.trans h2.whole
    have l5 := (hm 2 _ rfl).whole.trans h2.whole
    exact connected1_spec w2 (l5.cell (by simp [Ch.h, Hp.cell?, Hp.one])) (l5.cell (by simp [Ch.h, Hp.cell?, Hp.one])) (hL'.mono (encF_mono _) l0) hG' (by omega) hx2
  rintro _ _ ⟨a3, n3, c3, h3, rfl, rfl, s3⟩
  exact ⟨[.hp h3], ⟨a3, n3, c3, h3, rfl, rfl, s3⟩, fun w' h => h.pick [0, 3] rfl rfl⟩
def haF (N : Int) (N' : Int) (E' : List (Int × Int)) (x : Nat) : Bool := halF N'.toNat E' (allN N.toNat) x
theorem Halves_spec {a a' : Option Addr} {n c n' c' : Nat} {E E' : List (Int × Int)} (N N' : Int) (w : World) (hL : Sl (encF fE) 2 (Hp.whole w) a n c E) (hL' : Sl (encF fE) 2 (Hp.whole w) a' n' c' E') (hN7 : checkF N E = 0 → N ≤ 7) (hT : Tab (Hp.whole w)) :
    CallsE Tryz.prog 20 #[gv N a n c, gv N' a' n' c'] w (RetR w (choR N E N' E' 0 (-1) (haF N N' E')) (pairE N E N' E' 0 (-1))) := by
  obtain ⟨e, he⟩ : ∃ e, e = pairE N E N' E' 0 (-1) := ⟨_, rfl⟩
  obtain ⟨R, hR⟩ : ∃ e, e = choR N E N' E' 0 (-1) (haF N N' E') := ⟨_, rfl⟩
  rw [← he, ← hR]
  refine enter (X := cx 12) (cxg _) (args := [.agg #[.int .i64 N, .slice a n c], .agg #[.int .i64 N', .slice a' n' c']]) [.tmp 4, .tmp 5] Tryz.func20 rfl rfl rfl rfl rfl ?_
  intro b2 b3
  refine call (R := fun v cs => ∃ a n c h, v = .tuple #[.slice a n c, .int .i64 e] ∧ cs = [.hp h] ∧ Sl (encS (encF fI) 1) 1 h a n c R) (fun w' hm => ?_) ?_
  · rw [he, hR]
    refine choose_spec N N' 0 (-1) w' (hL.mono (encF_mono _) (hm 0 _ rfl)) (hL'.mono (encF_mono _) (hm 0 _ rfl)) hN7 (hT.mono (hm 0 _ rfl)) 44 (.pointer (some ⟨b3, 0, none⟩)) (haF N N' E') (fun hp w2 h2 x hx => ?_)
    obtain ⟨p1, p2, p3, p4⟩ := pair_ok hp
    have p7 := hN7 p1
    subst p3
    obtain ⟨M, rfl, hG, _⟩ := checkF_ok p1
    obtain ⟨M', hM', hG', _⟩ := checkF_ok p2
    obtain rfl : M = M' := by omega
    rw [Int.toNat_natCast] at *
    obtain ⟨hx1, hx2⟩ := canL_bits hG (by omega) hx
    have l0 : (Hp.whole w).le (Hp.whole w2) := (hm 0 _ rfl).whole.trans h2.whole
    have l5 := (hm 2 _ rfl).whole.trans h2.whole
    exact halves1_spec w2 (l5.cell (by simp [Ch.h, Hp.cell?, Hp.one])) (l5.cell (by simp [Ch.h, Hp.cell?, Hp.one])) (hL'.mono (encF_mono _) l0) hG' (by omega) hx2 (allN_lt (by omega)) (fun v hv => by rw [allN_bit] at hv; exact of_decide_eq_true hv)
  rintro _ _ ⟨a3, n3, c3, h3, rfl, rfl, s3⟩
  exact ⟨[.hp h3], ⟨a3, n3, c3, h3, rfl, rfl, s3⟩, fun w' h => h.pick [0, 3] rfl rfl⟩
end Go.Proofs.YtbcjdjlihhlkaaaGreatDoor
namespace Go.Proofs.YtbcjdjlihhlkaaaGreatDoor
open Go Go.RowKit Go.Dw
theorem ask_spec {a : Option Addr} {n c : Nat} {E : List (Int × Int)} (N most without : Int) (w : World) (hL : Sl (encF fE) 2 (Hp.whole w) a n c E) :
    CallsE Tryz.prog 8 #[gv N a n c, .int .i64 most, .int .i64 without] w (RetV w (.int .i64 (resE N E most without))) := by
  refine enter (X := cx 25) (cxg _) (args := [.agg #[.int .i64 N, .slice a n c], .int .i64 most, .int .i64 without]) [.tmp 6] Tryz.func8 rfl rfl rfl rfl rfl ?_
  intro b3
  refine callV _ (fun w' hm => check_spec N w' (hL.mono (encF_mono _) (hm 0 _ rfl))) ?_
  refine bsplitd (fun h => ?_) (fun h => ?_)
  · have e : resE N E most without = checkF N E := by unfold resE; rw [if_pos h]
    exact ⟨[], ⟨by rw [e], rfl⟩, fun w' h => h.pick [0] rfl rfl⟩
  have bad : (most < 0 ∨ without < -1 ∨ without ≥ N) → resE N E most without = 2 := fun hb => by unfold resE; rw [if_neg h, if_pos hb]
  refine bsplitd (fun h1 => ?_) (fun h1 => ?_)
  · exact ⟨[], ⟨by rw [bad (.inl h1)], rfl⟩, fun w' h => h.pick [0] rfl rfl⟩
  refine bsplitd (fun h2 => ?_) (fun h2 => ?_)
  · exact ⟨[], ⟨by rw [bad (.inr (.inl h2))], rfl⟩, fun w' h => h.pick [0] rfl rfl⟩
  refine bsplitd (fun h3 => ?_) (fun h3 => ?_)
  · exact ⟨[], ⟨by rw [bad (.inr (.inr h3))], rfl⟩, fun w' h => h.pick [0] rfl rfl⟩
  have good : resE N E most without = 0 := by unfold resE; rw [if_neg h, if_neg (by omega)]
  exact ⟨[], ⟨by rw [good], rfl⟩, fun w' h => h.pick [0] rfl rfl⟩
section
variable {N : Nat} {E : List (Int × Int)}
theorem cho_filter (hG : Gr N E) (hN : N ≤ 7) {most without : Int} (hm : 0 ≤ most) {q : Nat → Bool} {p : List Int → Bool} (h : ∀ L ∈ candF N E most without, q (ofN L) = p L) :
    ((canL N E most without).filter q).map nod = (candF N E most without).filter p := by
  have he := can_eq (E := E) hG hN hm (without := without)
  rw [← he, List.filter_map]
  congr 1
  refine List.filter_congr fun x hx => ?_
  have hx1 := (canL_bits hG hN hx).1
  have := h (nod x) (by rw [← he]; exact List.mem_map_of_mem hx)
  rw [ofN_nod (by omega)] at this
  exact this
theorem can_sub (hN : N ≤ 7) {most without : Int} {L : List Int} (hL : L ∈ candF N E most without) : ofN L ≤ 2 ^ N - 2 ∧ 0 < ofN L ∧ nod (ofN L) = L := by
  have hp7 : 2 ^ N ≤ 128 := Nat.pow_le_pow_right (n := 2) (by decide) hN
  obtain ⟨t, h1, h2, _, rfl⟩ := candK_mem.1 hL
  rw [ofN_nod (by omega)]
  exact ⟨h2, h1, rfl⟩
theorem all_less (hN : N ≤ 7) {x : Nat} (hx : x ≤ 2 ^ N - 1) : allN N &&& (18446744073709551615 - x) = 2 ^ N - 1 - x := by
  have hp := Nat.two_pow_pos N
  have hp7 : 2 ^ N ≤ 128 := Nat.pow_le_pow_right (n := 2) (by decide) hN
  refine Nat.eq_of_testBit_eq fun v => ?_
  rw [Nat.testBit_and, allN_bit, show 18446744073709551615 - x = 2 ^ 64 - (x + 1) by omega, show 2 ^ N - 1 - x = 2 ^ N - (x + 1) by omega, Nat.testBit_two_pow_sub_succ (by omega), Nat.testBit_two_pow_sub_succ (by omega)]
  by_cases h : v < N
  · rw [decide_eq_true h, decide_eq_true (show v < 64 by omega)]; rfl
  · rw [decide_eq_false h]; rfl
end
theorem Rds.slW {w : World} {vs : List Value} {LL : List (List Int)} (h : Rds (Hp.whole w) vs LL) {a : Option Addr} {n c : Nat} (hs : Sl (encF fV) 1 (Hp.whole w) a n c vs) : Sl (encS (encF fI) 1) 1 (Hp.whole w) a n c LL := by
  refine ⟨by rw [hs.len, h.len], hs.cap, fun i hi => ?_⟩
  have hi' : i < vs.length := by rw [h.len]; exact hi
  obtain ⟨b, off, cs, h1, h2, h3, h4⟩ := hs.cells i hi'
  have hv := h.get i _ _ (List.getElem?_eq_getElem hi') (List.getElem?_eq_getElem hi)
  refine ⟨b, off, cs, h1, h2, ?_, h4⟩
  rw [show cs = [vs[i]] from h3]
  exact hv
theorem fil_snoc {α : Type} {p : α → Bool} {L : List α} {k : Nat} (h : k < L.length) : (L.take (k + 1)).filter p = if p L[k] then (L.take k).filter p ++ [L[k]] else (L.take k).filter p := by
  rw [List.take_succ_eq_append_getElem h, List.filter_append]
  by_cases hp : p L[k] = true
  · rw [if_pos hp, List.filter_cons_of_pos hp, List.filter_nil]
  · rw [if_neg hp, List.filter_cons_of_neg hp, List.filter_nil, List.append_nil]
end Go.Proofs.YtbcjdjlihhlkaaaGreatDoor
