/- Parts of one proof, joined: Sd, Se, Sf. No condition of its own. -/
import Derived.Test.YtbcjdjlihhlkaaaDoorXL
namespace Go.Dw
open Go Go.RowKit
section
variable {P : Program} {s : List Ch} {ty : Nat} {q : TV → Prop}
theorem qRemN {k : IntKind} (a b : Nat) {x y : Int} (hx : x = a) (hy : y = b) (hb : 0 < b) (h : q (.v (.int k ((a % b : Nat) : Int)))) : NeedQ P s (binOp .rem ty (.int k x) (.int k y)) q := by
  subst hx hy
  refine ⟨_, fun w _ => ?_, h⟩
  have h0 : ¬ b = 0 := by omega
  simp [binOp, Op.intDiv, h0, Int.tmod_eq_emod_of_nonneg (show (0 : Int) ≤ (a : Int) by omega)]
theorem qQuoN (a b : Nat) {x y : Int} (hx : x = a) (hy : y = b) (hb : 0 < b) (ha : a < 9223372036854775808) (h : q (.v (.int .i64 ((a / b : Nat) : Int)))) : NeedQ P s (binOp .quo ty (.int .i64 x) (.int .i64 y)) q := by
  subst hx hy
  refine ⟨_, fun w _ => ?_, h⟩
  have h0 : ¬ b = 0 := by omega
  have hd : a / b < 9223372036854775808 := Nat.lt_of_le_of_lt (Nat.div_le_self a b) ha
  have hw := wrapI hd
  rw [Int.natCast_ediv] at hw
  simp [binOp, Op.intDiv, h0]
  exact hw
end
end Go.Dw
namespace Go.Proofs.YtbcjdjlihhlkaaaDoor
open Go Go.RowKit Go.Dw
def fY (x : Int) : List Value := [.int .u8 x]
/-- has a net the edge of a number? -/
def netH (M : Nat) (U : List Int) (i : Nat) : Bool := (U.take 40).any fun u => decide (u % 49 = ((i / M * 7 + i % M : Nat) : Int))
def netK (M : Nat) (U : List Int) (i : Nat) : List (Int × Int) := ((List.range i).filter (netH M U)).map fun v : Nat => (((v / M : Nat) : Int), ((v % M : Nat) : Int))
def netE (M : Nat) (U : List Int) : List (Int × Int) := netK M U (M * M)
theorem netK_succ (M : Nat) (U : List Int) (i : Nat) : netK M U (i + 1) = if netH M U i then netK M U i ++ [(((i / M : Nat) : Int), ((i % M : Nat) : Int))] else netK M U i := by
  unfold netK
  rw [List.range_succ, List.filter_append, List.map_append]
  by_cases h : netH M U i <;> simp [h]
theorem netK_len (M : Nat) (U : List Int) (i : Nat) : (netK M U i).length ≤ i := by
  unfold netK; rw [List.length_map]; exact Nat.le_trans (List.length_filter_le _ _) (by simp)
set_option maxRecDepth 10000 in
theorem Net_spec {a : Option Addr} {n c : Nat} {U : List Int} (N : Int) (w : World) (hL : Sl (encF fY) 1 (Hp.whole w) a n c U) (hN : 0 ≤ N ∧ N ≤ 255) (hU : ∀ u ∈ U, 0 ≤ u ∧ u ≤ 255) :
    CallsE Tryd.prog 10 #[.agg #[.int .u8 N, .slice a n c]] w (Ret w fun v cs => ∃ o : Dw.Os, v = gv (N.toNat % 8 : Nat) o.a o.n o.c ∧ cs = [.hp o.h] ∧ OwnO fE 58 2 o (netE (N.toNat % 8) U)) := by
  have hlen := hL.len
  obtain ⟨M, hM⟩ : ∃ M, M = N.toNat % 8 := ⟨_, rfl⟩
  have hM7 : M ≤ 7 := by omega
  rw [← hM]
  have hMM : M * M ≤ 49 := Nat.mul_le_mul hM7 hM7
  refine enter (X := cx 60) (cxg _) (args := [.agg #[.int .u8 N, .slice a n c]]) [.cell 2 28] Tryd.func10 rfl rfl rfl rfl rfl ?_
  intro b1 b2
  refine qRemN N.toNat 8 (by omega) rfl (by decide) ?_
  rw [← hM]
  refine nw (by omega) (by omega) ?_
  intro b4
  refine NeedL.mk (Nat × Dw.Os) (fun g => [(1, .bx 1 0), (2, .bx 2 0), (3, .v (.int .i64 M)), (4, .bx 3 0), (5, .v (.int .i64 g.1))])
    (fun g => [.hp (Hp.whole w), .box b1 [.int .u8 N, .slice a n c] 24, .box b2 [.int .i64 0, .slice none 0 0] 28, .box b4 [.int .i64 M, .slice g.2.a g.2.n g.2.c] 28, .hp g.2.h])
    (fun g => g.1 ≤ M * M ∧ OwnO fE 58 2 g.2 (netK M U g.1)) (fun g => M * M - g.1) (0, Os.nil) ⟨Nat.zero_le _, OwnO.nil _ _ _⟩ (Ent.mk (fun _ _ h => h.emp) rfl rfl) ?_
  rintro ⟨i, o1⟩ ⟨hi, ho⟩
  dsimp only at *
  refine nw (by omega) (by omega) ?_
  refine bsplitd (fun hlt => ?_) (fun hge => ?_)
  · have hM0 : 0 < M := by rcases Nat.eq_zero_or_pos M with h | h; · subst h; omega
                           · exact h
    have hdl : i / M ≤ i := Nat.div_le_self _ _
    have hml : i % M < M := Nat.mod_lt _ hM0
    have hdn : (0 : Int) ≤ ((i / M : Nat) : Int) := Int.natCast_nonneg _
    have st := netK_succ M U i
    have hl := netK_len M U i
    have hi' : i < M * M := by omega
    refine NeedL.mk Nat (fun k => [(1, .bx 1 0), (2, .bx 2 0), (3, .v (.int .i64 M)), (4, .bx 3 0), (5, .v (.int .i64 i)), (6, .v (.int .i64 k))])
      (fun _ => [.hp (Hp.whole w), .box b1 [.int .u8 N, .slice a n c] 24, .box b2 [.int .i64 0, .slice none 0 0] 28, .box b4 [.int .i64 M, .slice o1.a o1.n o1.c] 28, .hp o1.h])
      (fun k => k ≤ n ∧ k ≤ 40 ∧ ((U.take k).any fun u => decide (u % 49 = ((i / M * 7 + i % M : Nat) : Int))) = false) (fun k => n - k) 0 ⟨Nat.zero_le _, Nat.zero_le _, rfl⟩ (Ent.mk (fun _ _ h => h) rfl rfl) ?_
    rintro k ⟨hk, hk40, hno⟩
    refine bsplitd (fun hkl => ?_) (fun hkg => ?_)
    · refine bsplitd (fun hk4 => ?_) (fun hk4 => ?_)
      · have hk' : k < U.length := by omega
        obtain ⟨u1, u2⟩ := hU _ (List.getElem_mem hk')
        refine NeedD.by_order (cxg _) (.take 0 <| .take 1 <| .take 2 <| .take 3 <| .take 4 <| .take 5 <| .take 6 <| .take 7 <| .take 8 <| .take 9 <| .take 10 <| .take 11 <| .take 12 <| .take 13 <| .take 14 <| .take 15 <| .done) (by kernel_rfl) ?_
        refine idx (cxg _) (e := 5) rfl hL k rfl hk' (fun b o cs hcs hR hcell => ?_)
        subst hR
        refine ld1 (cxg _) (i := 0) rfl (hcell 0 _ rfl) rfl ?_
        refine nw (by omega) (by omega) ?_
        refine qRemN U[k].toNat 49 (by omega) rfl (by decide) ?_
        refine qQuoN i M rfl rfl hM0 (by omega) ?_
        refine nw (by omega) (by omega) ?_
        refine qRemN i M rfl rfl hM0 ?_
        refine nw (by omega) (by omega) ?_
        have hsn := any_snoc (p := fun u : Int => decide (u % 49 = ((i / M * 7 + i % M : Nat) : Int))) hk'
        rw [hno] at hsn
        have hrm : ((U[k].toNat % 49 : Nat) : Int) = U[k] % 49 := by omega
        refine bsplitd (fun heq => ?_) (fun hne => ?_)
        · have hyes : netH M U i = true := any_hit (k := k) (by rw [List.length_take]; omega) (by
            rw [List.getElem_take]; exact decide_eq_true (by omega))
          rw [if_pos hyes] at st
          refine NeedD.by_order0 (cxg _) (.take 0 <| .take 1 <| .take 2 <| .take 3 <| .take 4 <| .take 5 <| .take 6 <| .take 7 <| .take 8 <| .run 9 <| .run 10 <| .run 11 <| .run 12 <| .done) (by kernel_rfl) (subL_blank _ 4) ?_
          refine qQuoN i M rfl rfl hM0 (by omega) ?_
          refine qRemN i M rfl rfl hM0 ?_
          intro b56
          refine ⟨(by repeat first | exact trivial | refine ⟨.inl rfl, ?_⟩ | refine ⟨.inr rfl, ?_⟩), ?_⟩
          refine appO (cxg _) (e := 58) rfl (i := 4) rfl ho (j := 5) (((i / M : Nat) : Int), ((i % M : Nat) : Int)) rfl rfl rfl rfl (by omega) (fun o' ho' => ⟨(by repeat first | exact trivial | refine ⟨.inl rfl, ?_⟩ | refine ⟨.inr rfl, ?_⟩), ?_⟩)
          refine nw (by omega) (by omega) ?_
          exact ⟨(i + 1, o'), ⟨by dsimp only; omega, by dsimp only; rw [st]; exact ho'⟩, by dsimp only; omega, Ent.mk (fun _ _ h => h.pick [0, 1, 2, 3, 4] rfl rfl) rfl rfl⟩
        · refine nw (by omega) (by omega) ?_
          exact ⟨k + 1, ⟨by omega, by omega, by rw [hsn, Bool.false_or]; exact decide_eq_false (by omega)⟩, by omega, Ent.mk (fun _ _ h => h) rfl rfl⟩
      · have hnh : netH M U i = false := by unfold netH; rw [← show k = 40 by omega]; exact hno
        rw [hnh] at st
        refine nw (by omega) (by omega) ?_
        exact ⟨(i + 1, o1), ⟨by dsimp only; omega, by dsimp only; rw [st]; exact ho⟩, by dsimp only; omega, Ent.mk (fun _ _ h => h) rfl rfl⟩
    · have hnh : netH M U i = false := by
        unfold netH; rw [List.take_of_length_le (by omega)]; rw [List.take_of_length_le (by omega)] at hno; exact hno
      rw [hnh] at st
      refine nw (by omega) (by omega) ?_
      exact ⟨(i + 1, o1), ⟨by dsimp only; omega, by dsimp only; rw [st]; exact ho⟩, by dsimp only; omega, Ent.mk (fun _ _ h => h) rfl rfl⟩
  · rw [show i = M * M by omega] at ho
    exact ⟨[.hp o1.h], ⟨o1, rfl, rfl, ho⟩, fun w' h => h.pick [0, 4] rfl rfl⟩
end Go.Proofs.YtbcjdjlihhlkaaaDoor
namespace Go.Proofs.YtbcjdjlihhlkaaaDoor
open Go Go.RowKit Go.Dw
theorem netE_mem {M : Nat} {U : List Int} {x : Int × Int} (h : x ∈ netE M U) : ∃ v : Nat, v < M * M ∧ netH M U v = true ∧ x = (((v / M : Nat) : Int), ((v % M : Nat) : Int)) := by
  obtain ⟨v, hv, rfl⟩ := List.mem_map.1 h
  obtain ⟨h1, h2⟩ := List.mem_filter.1 hv
  exact ⟨v, List.mem_range.1 h1, h2, rfl⟩
theorem net_gr {M : Nat} (hM : M ≤ 7) (U : List Int) : Gr M (netE M U) := by
  refine ⟨by omega, fun e he => ?_, ?_⟩
  · obtain ⟨v, hv, _, rfl⟩ := netE_mem he
    have hM0 : 0 < M := by rcases Nat.eq_zero_or_pos M with h | h
                           · subst h; omega
                           · exact h
    have h1 : v / M < M := (Nat.div_lt_iff_lt_mul hM0).2 hv
    have h2 : v % M < M := Nat.mod_lt _ hM0
    exact ⟨Int.natCast_nonneg _, Int.ofNat_lt.2 h1, Int.natCast_nonneg _, Int.ofNat_lt.2 h2⟩
  · have := netK_len M U (M * M)
    have hMM : M * M ≤ 49 := Nat.mul_le_mul hM hM
    unfold netE; omega
theorem net_srt (M : Nat) (U : List Int) : Srt (netE M U) := by
  unfold netE netK Srt
  refine List.pairwise_map.2 (((pw_range _).filter _).imp fun {a b} h => ?_)
  unfold elt
  dsimp only
  have hd : a / M ≤ b / M := Nat.div_le_div_right (Nat.le_of_lt h)
  by_cases he : a / M = b / M
  · refine .inr ⟨by rw [he], ?_⟩
    have h1 := Nat.div_add_mod a M
    have h2 := Nat.div_add_mod b M
    rw [he] at h1
    exact Int.ofNat_lt.2 (by omega)
  · exact .inl (Int.ofNat_lt.2 (by omega))
theorem net_check {M : Nat} (hM : M ≤ 7) (U : List Int) : checkF M (netE M U) = 0 := by
  have hG := net_gr hM U
  have hl : (netE M U).length ≤ M * M := netK_len M U (M * M)
  have ho : (netE M U).any (outF (M : Int)) = false := by
    rw [List.any_eq_false]
    intro e he
    obtain ⟨a1, a2, a3, a4⟩ := hG.rng e he
    unfold outF beyondF
    simp only [Bool.or_eq_true, decide_eq_true_eq, not_or]
    omega
  unfold checkF
  rw [if_neg (by omega), if_neg (by rw [← Int.natCast_mul]; omega), ho, if_neg (by decide), srt_sortedF (net_srt M U), if_pos rfl]
theorem tb1 {a n : Nat} : (((a >>> n &&& 1 : Nat) : Int) = 1) ↔ a.testBit n = true := by
  rw [Nat.testBit_eq_decide_div_mod_eq, decide_eq_true_eq, Nat.and_one_is_mod, Nat.shiftRight_eq_div_pow]; omega
theorem tb0 {a n : Nat} : (((a >>> n &&& 1 : Nat) : Int) = 0) ↔ a.testBit n = false := by
  rw [Nat.testBit_eq_decide_div_mod_eq, decide_eq_false_iff_not, Nat.and_one_is_mod, Nat.shiftRight_eq_div_pow]; omega
theorem pow_lt63 {n : Nat} (hn : n < 63) : 2 ^ n < 9223372036854775808 := Nat.lt_of_lt_of_le (Nat.pow_lt_pow_right (by decide) hn) (by decide)
theorem and1_lt {a : Nat} : a &&& 1 < 9223372036854775808 := by rw [Nat.and_one_is_mod]; omega
theorem or_lt63 {a b : Nat} (ha : a < 9223372036854775808) (hb : b < 9223372036854775808) : a ||| b < 9223372036854775808 := Nat.or_lt_two_pow (n := 63) ha hb
/-! ### nodes -/
def nodK (s k : Nat) : List Int := ((List.range k).filter fun i => s.testBit i).map fun v : Nat => (v : Int)
theorem nodK_succ (s k : Nat) : nodK s (k + 1) = if s.testBit k then nodK s k ++ [(k : Int)] else nodK s k := by
  unfold nodK
  rw [List.range_succ, List.filter_append, List.map_append]
  by_cases h : s.testBit k <;> simp [h]
theorem nodK_len (s k : Nat) : (nodK s k).length ≤ k := by
  unfold nodK; rw [List.length_map]; exact Nat.le_trans (List.length_filter_le _ _) (by simp)
theorem nodK_stop {s k : Nat} (h : s >>> k = 0) : ∀ d, nodK s (k + d) = nodK s k
  | 0 => rfl
  | d + 1 => by
    have hb : s.testBit (k + d) = false := by
      rw [Nat.add_comm, Nat.testBit_add, ← Nat.shiftRight_eq_div_pow, h, Nat.zero_testBit]
    rw [← Nat.add_assoc, nodK_succ, hb, if_neg (by decide), nodK_stop h d]
theorem modNodes_spec (s : Nat) (hs : s < 9223372036854775808) (w : World) :
    CallsE Tryd.prog 18 #[.int .i64 s] w (Ret w fun v cs => ∃ o : Dw.Os, v = o.v ∧ cs = [.hp o.h] ∧ OwnO fI 3 1 o (nod s)) := by
  refine enter (X := cx 21) (cxg _) (args := [.int .i64 s]) [.tmp 2] Tryd.func18 rfl rfl rfl rfl rfl ?_
  refine NeedL.mk (Nat × Dw.Os) (fun g => [(0, .v (.int .i64 s)), (3, .v g.2.v), (4, .v (.int .i64 g.1))]) (fun g => [.hp (Hp.whole w), .hp g.2.h])
    (fun g => g.1 ≤ 63 ∧ OwnO fI 3 1 g.2 (nodK s g.1)) (fun g => 64 - g.1) (0, Os.nil) ⟨Nat.zero_le _, OwnO.nil _ _ _⟩ (Ent.mk (fun _ _ h => h.emp) rfl rfl) ?_
  rintro ⟨k, o⟩ ⟨hk, ho⟩
  dsimp only at *
  refine qShrI s k rfl rfl (by omega) ?_
  refine bsplitd (fun hgt => ?_) (fun hge => ?_)
  · have st := nodK_succ s k
    have hl := nodK_len s k
    have hk63 : k < 63 := by
      rcases Nat.lt_or_ge k 63 with h | h
      · exact h
      · rw [show k = 63 by omega, Nat.shiftRight_eq_div_pow, Nat.div_eq_of_lt hs] at hgt; omega
    refine qShrI s k rfl rfl (by omega) ?_
    refine qAndI (s >>> k) 1 rfl rfl (by have := shr_le s k; omega) (by decide) ?_
    refine bsplitd (fun hb => ?_) (fun hb => ?_)
    · rw [if_pos (tb1.1 hb)] at st
      intro b4
      refine appO (cxg _) (e := 3) rfl (i := 1) rfl ho (j := 2) (k : Int) rfl rfl rfl rfl (by omega) (fun o' ho' => ?_)
      refine nw (by omega) (by omega) ?_
      exact ⟨(k + 1, o'), ⟨by dsimp only; omega, by dsimp only; rw [st]; exact ho'⟩, by dsimp only; omega, Ent.mk (fun _ _ h => h.pick [0, 1] rfl rfl) rfl rfl⟩
    · rw [if_neg (fun h => hb (tb1.2 h))] at st
      refine nw (by omega) (by omega) ?_
      exact ⟨(k + 1, o), ⟨by dsimp only; omega, by dsimp only; rw [st]; exact ho⟩, by dsimp only; omega, Ent.mk (fun _ _ h => h) rfl rfl⟩
  · have h0 : s >>> k = 0 := Int.ofNat_eq_zero.1 (Int.le_antisymm (Int.not_lt.1 hge) (Int.natCast_nonneg _))
    have : nod s = nodK s k := by
      rw [← nodK_stop h0 (64 - k), show k + (64 - k) = 64 by omega]; rfl
    rw [← this] at ho
    exact ⟨[.hp o.h], ⟨o, rfl, rfl, ho⟩, fun w' h => h⟩
/-! ### bits -/
theorem ofN_lt63 {L : List Int} (h : ∀ x ∈ L, 0 ≤ x ∧ x < 63) : ofN L < 9223372036854775808 := by
  refine Nat.lt_pow_two_of_testBit (n := 63) _ fun v hv => ?_
  rw [ofN_bit fun x hx => (h x hx).1]
  refine decide_eq_false fun hm => ?_
  have := h _ hm; omega
theorem modBits_spec {a : Option Addr} {n c : Nat} {L : List Int} (w : World) (hL : Sl (encF fI) 1 (Hp.whole w) a n c L) (hr : ∀ x ∈ L, 0 ≤ x ∧ x < 63) (hn : n < 1000000000) :
    CallsE Tryd.prog 23 #[.slice a n c] w (RetV w (.int .i64 (ofN L : Nat))) := by
  have hlen := hL.len
  refine enter (X := cx 19) (cxg _) (args := [.slice a n c]) [.tmp 2] Tryd.func23 rfl rfl rfl rfl rfl ?_
  refine NeedL.mk Nat (fun k => [(0, .v (.slice a n c)), (3, .v (.int .i64 (ofN (L.take k) : Nat))), (4, .v (.int .i64 k))]) (fun _ => [.hp (Hp.whole w)])
    (fun k => k ≤ n) (fun k => n - k) 0 (Nat.zero_le _) (Ent.mk (fun _ _ h => h) rfl rfl) ?_
  rintro k hk
  refine bsplitd (fun hlt => ?_) (fun hge => ?_)
  · have hlt' : k < L.length := by omega
    obtain ⟨r1, r2⟩ := hr _ (List.getElem_mem hlt')
    refine idx (cxg _) (e := 3) rfl hL k rfl hlt' (fun b o cs hcs hR hcell => ?_)
    subst hR
    refine ld1 (cxg _) (i := 0) rfl (hcell 0 _ rfl) rfl ?_
    refine qShlI L[k].toNat rfl (by omega) (by omega) ?_
    refine qOrI (ofN (L.take k)) (2 ^ L[k].toNat) rfl rfl (ofN_lt63 fun x hx => hr x (List.mem_of_mem_take hx)) (pow_lt63 (by omega)) ?_
    refine nw (by omega) (by omega) ?_
    have e : ofN (L.take (k + 1)) = ofN (L.take k) ||| 2 ^ L[k].toNat := by
      unfold ofN; rw [List.take_succ_eq_append_getElem hlt', List.foldl_append]; rfl
    exact ⟨k + 1, by omega, by omega, Ent.mk (fun _ _ h => h) (by rw [e]; rfl) rfl⟩
  · rw [List.take_of_length_le (by omega)]
    exact ⟨[], ⟨rfl, rfl⟩, fun w' h => h⟩
/-! ### closed -/
def clsE (E : List (Int × Int)) (s : Nat) : Bool := E.all fun e => !s.testBit e.1.toNat || s.testBit e.2.toNat
theorem all_hit {α : Type} {p : α → Bool} {L : List α} {k : Nat} (hk : k < L.length) (e : p L[k] = false) : L.all p = false := by
  cases h : L.all p with
  | false => rfl
  | true => rw [List.all_eq_true.1 h _ (List.getElem_mem hk)] at e; cases e
theorem all_snoc {α : Type} {p : α → Bool} {L : List α} {k : Nat} (hk : k < L.length) (h : (L.take k).all p = true) (e : p L[k] = true) : (L.take (k + 1)).all p = true := by
  rw [List.take_succ_eq_append_getElem hk, List.all_append, h, List.all_cons, e]; rfl
theorem modClosed_spec {a : Option Addr} {n c : Nat} {E : List (Int × Int)} (N : Nat) (w : World) (hL : Sl (encF fE) 2 (Hp.whole w) a n c E) (hG : Gr N E) (hN : N ≤ 63) (s : Nat) (hs : s < 9223372036854775808) :
    CallsE Tryd.prog 17 #[gv N a n c, .int .i64 s] w (RetV w (.bool (clsE E s))) := by
  have hlen := hL.len
  have hEl := hG.len
  refine enter (X := cx 35) (cxg _) (args := [.agg #[.int .i64 N, .slice a n c], .int .i64 s]) [.tmp 4] Tryd.func17 rfl rfl rfl rfl rfl ?_
  intro b1
  refine NeedL.mk Nat (fun k => [(1, .v (.int .i64 s)), (2, .bx 1 0), (5, .v (.int .i64 k))]) (fun _ => [.hp (Hp.whole w), .box b1 [.int .i64 N, .slice a n c] 28])
    (fun k => k ≤ n ∧ ((E.take k).all fun e => !s.testBit e.1.toNat || s.testBit e.2.toNat) = true) (fun k => n - k) 0 ⟨Nat.zero_le _, rfl⟩ (Ent.mk (fun _ _ h => h) rfl rfl) ?_
  rintro k ⟨hk, ho⟩
  refine bsplitd (fun hlt => ?_) (fun hge => ?_)
  · have hlt' : k < E.length := by omega
    obtain ⟨r1, r2, r3, r4⟩ := hG.rng _ (List.getElem_mem hlt')
    have hsl := shr_le s
    refine hideQ (fun q' hq' => ?_)
    refine idx (cxg _) (e := 58) rfl hL k rfl hlt' (fun b o cs hcs hR hcell => ?_)
    subst hR
    refine ld1 (cxg _) (i := 0) rfl (hcell 0 _ rfl) rfl ?_
    refine qShrI s E[k].1.toNat rfl (by omega) (by omega) ?_
    refine qAndI (s >>> E[k].1.toNat) 1 rfl rfl (by have := hsl E[k].1.toNat; omega) (by decide) ?_
    refine bsplitd (fun hb => ?_) (fun hb => ?_)
    · refine idx (cxg _) (e := 58) rfl hL k rfl hlt' (fun b o cs hcs hR hcell => ?_)
      subst hR
      refine ld1 (cxg _) (i := 0) rfl (hcell 1 _ rfl) rfl ?_
      refine qShrI s E[k].2.toNat rfl (by omega) (by omega) ?_
      refine qAndI (s >>> E[k].2.toNat) 1 rfl rfl (by have := hsl E[k].2.toNat; omega) (by decide) ?_
      refine hq' _ _ ?_
      refine bsplitd (fun hb2 => ?_) (fun hb2 => ?_)
      · have : clsE E s = false := all_hit hlt' (by rw [tb1.1 hb, tb0.1 hb2]; rfl)
        exact ⟨[], ⟨by rw [this], rfl⟩, fun w' h => h.pick [0] rfl rfl⟩
      · have e2 : s.testBit E[k].2.toNat = true := by
          cases h : s.testBit E[k].2.toNat with
          | true => rfl
          | false => exact absurd (tb0.2 h) hb2
        refine nw (by omega) (by omega) ?_
        exact ⟨k + 1, ⟨by omega, all_snoc hlt' ho (by rw [e2, Bool.or_true])⟩, by omega, Ent.mk (fun _ _ h => h) rfl rfl⟩
    · have e1 : s.testBit E[k].1.toNat = false := by
        cases h : s.testBit E[k].1.toNat with
        | false => rfl
        | true => exact absurd (tb1.2 h) hb
      refine hq' _ _ ?_
      refine nw (by omega) (by omega) ?_
      exact ⟨k + 1, ⟨by omega, all_snoc hlt' ho (by rw [e1]; rfl)⟩, by omega, Ent.mk (fun _ _ h => h) rfl rfl⟩
  · rw [List.take_of_length_le (by omega)] at ho
    exact ⟨[], ⟨by unfold clsE; rw [ho], rfl⟩, fun w' h => h.pick [0] rfl rfl⟩
/-! ### hull -/
def passM (E : List (Int × Int)) (s : Nat) : Nat := E.foldl (fun s e => if s.testBit e.1.toNat then s ||| 2 ^ e.2.toNat else s) s
def hulM (E : List (Int × Int)) : Nat → Nat → Nat
  | 0, s => s
  | r + 1, s => passM E (hulM E r s)
theorem pass_lt {N : Nat} (hN : N ≤ 63) : ∀ {E : List (Int × Int)} {s : Nat}, (∀ e ∈ E, 0 ≤ e.1 ∧ e.1 < N ∧ 0 ≤ e.2 ∧ e.2 < (N : Int)) → s < 9223372036854775808 → passM E s < 9223372036854775808
  | [], s, _, hs => hs
  | e :: r, s, h, hs => by
    show passM r _ < _
    refine pass_lt hN (fun x hx => h x (by simp [hx])) ?_
    obtain ⟨_, _, h3, h4⟩ := h e (by simp)
    dsimp only
    split
    · exact or_lt63 hs (pow_lt63 (by omega))
    · exact hs
theorem pass_snoc (E : List (Int × Int)) (s : Nat) {k : Nat} (hk : k < E.length) : passM (E.take (k + 1)) s = if (passM (E.take k) s).testBit E[k].1.toNat then passM (E.take k) s ||| 2 ^ E[k].2.toNat else passM (E.take k) s := by
  unfold passM; rw [List.take_succ_eq_append_getElem hk, List.foldl_append]; rfl
theorem hul_lt63 {N : Nat} {E : List (Int × Int)} (hG : Gr N E) (hN : N ≤ 63) {s : Nat} (hs : s < 9223372036854775808) : ∀ r, hulM E r s < 9223372036854775808
  | 0 => hs
  | r + 1 => pass_lt hN hG.rng (hul_lt63 hG hN hs r)
theorem modHull_spec {a : Option Addr} {n c : Nat} {E : List (Int × Int)} (N : Nat) (w : World) (hL : Sl (encF fE) 2 (Hp.whole w) a n c E) (hG : Gr N E) (hN : N ≤ 63) (s : Nat) (hs : s < 9223372036854775808) :
    CallsE Tryd.prog 22 #[gv N a n c, .int .i64 s] w (RetV w (.int .i64 (hulM E N s : Nat))) := by
  have hlen := hL.len
  have hEl := hG.len
  refine enter (X := cx 40) (cxg _) (args := [.agg #[.int .i64 N, .slice a n c], .int .i64 s]) [.tmp 4] Tryd.func22 rfl rfl rfl rfl rfl ?_
  intro b1
  refine NeedL.mk Nat (fun r => [(1, .v (.int .i64 (hulM E r s : Nat))), (2, .bx 1 0), (5, .v (.int .i64 r))]) (fun _ => [.hp (Hp.whole w), .box b1 [.int .i64 N, .slice a n c] 28])
    (fun r => r ≤ N) (fun r => N - r) 0 (Nat.zero_le _) (Ent.mk (fun _ _ h => h) rfl rfl) ?_
  rintro r hr
  refine bsplitd (fun hlt => ?_) (fun hge => ?_)
  · obtain ⟨t, ht⟩ : ∃ t, t = hulM E r s := ⟨_, rfl⟩
    have htl : t < 9223372036854775808 := by rw [ht]; exact hul_lt63 hG hN hs r
    have hnx : hulM E (r + 1) s = passM E t := by rw [ht]; rfl
    rw [← ht]
    refine NeedL.mk Nat (fun k => [(1, .v (.int .i64 (passM (E.take k) t : Nat))), (2, .bx 1 0), (5, .v (.int .i64 r)), (6, .v (.int .i64 k))]) (fun _ => [.hp (Hp.whole w), .box b1 [.int .i64 N, .slice a n c] 28])
      (fun k => k ≤ n) (fun k => n - k) 0 (Nat.zero_le _) (Ent.mk (fun _ _ h => h) rfl rfl) ?_
    rintro k hk
    refine bsplitd (fun hkl => ?_) (fun hkg => ?_)
    · have hlt' : k < E.length := by omega
      obtain ⟨r1, r2, r3, r4⟩ := hG.rng _ (List.getElem_mem hlt')
      have st := pass_snoc E t hlt'
      have hu : passM (E.take k) t < 9223372036854775808 := pass_lt hN (fun e he => hG.rng e (List.mem_of_mem_take he)) htl
      obtain ⟨u, hud⟩ : ∃ u, u = passM (E.take k) t := ⟨_, rfl⟩
      rw [← hud] at hu st
      rw [← hud]
      have hsl := shr_le u
      refine idx (cxg _) (e := 58) rfl hL k rfl hlt' (fun b o cs hcs hR hcell => ?_)
      subst hR
      refine ld1 (cxg _) (i := 0) rfl (hcell 0 _ rfl) rfl ?_
      refine qShrI u E[k].1.toNat rfl (by omega) (by omega) ?_
      refine qAndI (u >>> E[k].1.toNat) 1 rfl rfl (by have := hsl E[k].1.toNat; omega) (by decide) ?_
      refine bsplitd (fun hb => ?_) (fun hb => ?_)
      · rw [if_pos (tb1.1 hb)] at st
        refine idx (cxg _) (e := 58) rfl hL k rfl hlt' (fun b o cs hcs hR hcell => ?_)
        subst hR
        refine ld1 (cxg _) (i := 0) rfl (hcell 1 _ rfl) rfl ?_
        refine qShlI E[k].2.toNat rfl (by omega) (by omega) ?_
        refine qOrI u (2 ^ E[k].2.toNat) rfl rfl hu (pow_lt63 (by omega)) ?_
        refine nw (by omega) (by omega) ?_
        exact ⟨k + 1, by omega, by omega, Ent.mk (fun _ _ h => h) (by rw [st]; rfl) rfl⟩
      · rw [if_neg (fun h => hb (tb1.2 h))] at st
        refine nw (by omega) (by omega) ?_
        exact ⟨k + 1, by omega, by omega, Ent.mk (fun _ _ h => h) (by rw [st]; rfl) rfl⟩
    · rw [List.take_of_length_le (by omega)]
      refine nw (by omega) (by omega) ?_
      exact ⟨r + 1, by omega, by omega, Ent.mk (fun _ _ h => h) (by rw [hnx]; rfl) rfl⟩
  · rw [show r = N by omega]
    exact ⟨[], ⟨rfl, rfl⟩, fun w' h => h.pick [0] rfl rfl⟩
end Go.Proofs.YtbcjdjlihhlkaaaDoor
namespace Go.Proofs.YtbcjdjlihhlkaaaDoor
open Go Go.RowKit Go.Dw
theorem pass_mono : ∀ {E : List (Int × Int)} {s v : Nat}, s.testBit v = true → (passM E s).testBit v = true
  | [], _, _, h => h
  | e :: r, s, v, h => by
    show (passM r _).testBit v = true
    refine pass_mono ?_
    dsimp only
    split
    · rw [Nat.testBit_or, h]; rfl
    · exact h
theorem pass_edge : ∀ {E : List (Int × Int)} {s : Nat} {e : Int × Int}, e ∈ E → s.testBit e.1.toNat = true → (passM E s).testBit e.2.toNat = true
  | f :: r, s, e, he, h => by
    show (passM r _).testBit e.2.toNat = true
    rcases List.mem_cons.1 he with rfl | he
    · refine pass_mono ?_
      dsimp only
      rw [if_pos h, Nat.testBit_or, Nat.testBit_two_pow_self, Bool.or_true]
    · refine pass_edge he ?_
      dsimp only
      split
      · rw [Nat.testBit_or, h]; rfl
      · exact h
theorem pass_sound {P : Nat → Prop} : ∀ {E : List (Int × Int)} {s : Nat}, (∀ e ∈ E, P e.1.toNat → P e.2.toNat) → (∀ v, s.testBit v = true → P v) → ∀ v, (passM E s).testBit v = true → P v
  | [], _, _, h, v, hv => h v hv
  | e :: r, s, hE, h, v, hv => by
    refine pass_sound (E := r) (fun x hx => hE x (by simp [hx])) ?_ v (show (passM r _).testBit v = true from hv)
    dsimp only
    intro u hu
    split at hu
    · rename_i he
      rw [Nat.testBit_or, Nat.testBit_two_pow, Bool.or_eq_true] at hu
      rcases hu with hu | hu
      · exact h u hu
      · rw [← of_decide_eq_true hu]
        exact hE e (by simp) (h _ he)
    · exact h u hu
theorem hul_mono {E : List (Int × Int)} {s v : Nat} (h : s.testBit v = true) : ∀ r, (hulM E r s).testBit v = true
  | 0 => h
  | r + 1 => pass_mono (hul_mono h r)
theorem hul_sound {P : Nat → Prop} {E : List (Int × Int)} {s : Nat} (hE : ∀ e ∈ E, P e.1.toNat → P e.2.toNat) (h : ∀ v, s.testBit v = true → P v) : ∀ r v, (hulM E r s).testBit v = true → P v
  | 0, v, hv => h v hv
  | r + 1, v, hv => pass_sound hE (hul_sound hE h r) v hv
theorem hul_far {N : Nat} {E : List (Int × Int)} (hG : Gr N E) {s x : Nat} (hx : x < N) (hs : s.testBit x = true) : ∀ (k r : Nat) {y : Nat}, k ≤ r → wlk E k x y = true → (hulM E r s).testBit y = true
  | 0, r, y, _, h => by
    have : (x : Int) = y := by unfold wlk at h; exact of_decide_eq_true h
    have : x = y := by omega
    subst this
    exact hul_mono hs r
  | k + 1, 0, y, h, _ => by omega
  | k + 1, r + 1, y, h, hw => by
    obtain ⟨c, hc, hwc⟩ := wlk_succ.1 hw
    obtain ⟨c1, c2⟩ := wlk_rng hG (by omega) hwc
    obtain ⟨c', rfl⟩ : ∃ c' : Nat, c = c' := ⟨c.toNat, by omega⟩
    have := hul_far hG hx hs k r (by omega) hwc
    exact pass_edge (e := ((c' : Int), (y : Int))) hc (by simpa using this)
theorem hul_bit {N : Nat} {E : List (Int × Int)} (hG : Gr N E) {s : Nat} (hs : ∀ v, s.testBit v = true → v < N) {y : Nat} : (hulM E N s).testBit y = true ↔ ∃ x : Nat, s.testBit x = true ∧ ∃ k, wlk E k x y = true := by
  constructor
  · refine hul_sound (P := fun y => ∃ x : Nat, s.testBit x = true ∧ ∃ k, wlk E k x y = true) (fun e he => ?_) (fun v hv => ⟨v, hv, 0, by unfold wlk; exact decide_eq_true rfl⟩) N y
    rintro ⟨x, hx, k, hk⟩
    obtain ⟨r1, r2, r3, r4⟩ := hG.rng e he
    rw [Int.toNat_of_nonneg r1] at hk
    exact ⟨x, hx, k + 1, wlk_succ.2 ⟨e.1, by rw [Int.toNat_of_nonneg r3]; exact he, hk⟩⟩
  · rintro ⟨x, hx, k, hk⟩
    have hxN := hs x hx
    obtain ⟨t, ht, hw⟩ := wlk_short hG (by omega) hk
    exact hul_far hG hxN hx t N (by omega) hw
theorem hul_rng {N : Nat} {E : List (Int × Int)} (hG : Gr N E) {s : Nat} (hs : ∀ v, s.testBit v = true → v < N) (r : Nat) : ∀ v, (hulM E r s).testBit v = true → v < N :=
  hul_sound (P := fun v => v < N) (fun e he _ => by obtain ⟨r1, r2, r3, r4⟩ := hG.rng e he; omega) hs r
theorem nod_rng {s N : Nat} (hN : N ≤ 64) (h : ∀ v, s.testBit v = true → v < N) : nod s = nodK s N := by
  have h0 : s >>> N = 0 := Nat.eq_of_testBit_eq fun i => by
    rw [Nat.testBit_shiftRight, Nat.zero_testBit]
    cases hb : s.testBit (N + i) with
    | false => rfl
    | true => have := h _ hb; omega
  rw [← nodK_stop h0 (64 - N), show N + (64 - N) = 64 by omega]; rfl
theorem ofN_rng {L : List Int} {N : Nat} (h : ∀ x ∈ L, 0 ≤ x ∧ x < N) : ∀ v, (ofN L).testBit v = true → v < N := fun v hv => by
  rw [ofN_bit fun x hx => (h x hx).1] at hv
  have := h _ (of_decide_eq_true hv); omega
theorem hul_rea {N : Nat} {E : List (Int × Int)} (hG : Gr N E) {L : List Int} (h : ∀ x ∈ L, 0 ≤ x ∧ x < N) : nod (hulM E N (ofN L)) = reaK N E L N := by
  have hr := ofN_rng h
  rw [nod_rng hG.hN (hul_rng hG hr N)]
  unfold nodK reaK
  congr 1
  refine List.filter_congr fun v hv => ?_
  rw [Bool.eq_iff_iff, hul_bit hG hr, isR_iff hG h]
  constructor
  · rintro ⟨x, hx, k, hk⟩
    rw [ofN_bit fun x hx => (h x hx).1] at hx
    exact ⟨x, of_decide_eq_true hx, k, hk⟩
  · rintro ⟨x, hx, k, hk⟩
    obtain ⟨x1, x2⟩ := h x hx
    refine ⟨x.toNat, ?_, k, by rw [Int.toNat_of_nonneg x1]; exact hk⟩
    rw [ofN_bit fun x hx => (h x hx).1]
    exact decide_eq_true (by rw [Int.toNat_of_nonneg x1]; exact hx)
end Go.Proofs.YtbcjdjlihhlkaaaDoor
