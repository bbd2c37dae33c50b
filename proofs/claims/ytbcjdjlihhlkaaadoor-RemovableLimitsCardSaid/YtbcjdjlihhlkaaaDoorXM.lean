/- Parts of one proof, joined: Sd, Se, Sf, Sg, Sh, Si, Sj, Sk, Sl, Sm, Sn. No condition of its own. -/
import Derived.Test.YtbcjdjlihhlkaaaDoorXL
import Derived.Test.YtbcjdjlihhlkaaaDoorXJ
namespace Go.Dw
open Go Go.RowKit
section
variable {P : Program} {s : List Ch} {ty : Nat} {q : TV → Prop}
theorem qRemN {k : IntKind} (a b : Nat) {x y : Int} (hx : x = a) (hy : y = b) (hb : 0 < b) (h : q (.v (.int k ((a % b : Nat) : Int)))) : NeedQ P s (binOp .rem ty (.int k x) (.int k y)) q := by
  subst hx hy
  refine ⟨_, fun w _ => ?_, h⟩
  have h0 : ¬ b = 0 := by omega
  simp [binOp, Op.intDiv, h0, Int.tmod_eq_emod_of_nonneg (show (0 : Int) ≤ (a : Int) by omega)]
theorem qQuoN (a b : Nat) {x y : Int} (hx : x = a) (hy : y = b) (hb : 0 < b) (ha : a < 9223372036854775808) (h : q (.v (.int .i64 ((a / b : Nat) : Int)))) : NeedQ P s (binOp .quo ty (.int .i64 x) (.int .i64 y)) q := by
  subst hx hy
  refine ⟨_, fun w _ => ?_, h⟩
  have h0 : ¬ b = 0 := by omega
  have hd : a / b < 9223372036854775808 := Nat.lt_of_le_of_lt (Nat.div_le_self a b) ha
  have hw := wrapI hd
  rw [Int.natCast_ediv] at hw
  simp [binOp, Op.intDiv, h0]
  exact hw
end
end Go.Dw
namespace Go.Proofs.YtbcjdjlihhlkaaaDoor
open Go Go.RowKit Go.Dw
def fY (x : Int) : List Value := [.int .u8 x]
/-- has a net the edge of a number? -/
def netH (M : Nat) (U : List Int) (i : Nat) : Bool := (U.take 40).any fun u => decide (u % 49 = ((i / M * 7 + i % M : Nat) : Int))
def netK (M : Nat) (U : List Int) (i : Nat) : List (Int × Int) := ((List.range i).filter (netH M U)).map fun v : Nat => (((v / M : Nat) : Int), ((v % M : Nat) : Int))
def netE (M : Nat) (U : List Int) : List (Int × Int) := netK M U (M * M)
theorem netK_succ (M : Nat) (U : List Int) (i : Nat) : netK M U (i + 1) = if netH M U i then netK M U i ++ [(((i / M : Nat) : Int), ((i % M : Nat) : Int))] else netK M U i := by
  unfold netK
  rw [List.range_succ, List.filter_append, List.map_append]
  by_cases h : netH M U i <;> simp [h]
theorem netK_len (M : Nat) (U : List Int) (i : Nat) : (netK M U i).length ≤ i := by
  unfold netK; rw [List.length_map]; exact Nat.le_trans (List.length_filter_le _ _) (by simp)
set_option maxRecDepth 10000 in
theorem Net_spec {a : Option Addr} {n c : Nat} {U : List Int} (N : Int) (w : World) (hL : Sl (encF fY) 1 (Hp.whole w) a n c U) (hN : 0 ≤ N ∧ N ≤ 255) (hU : ∀ u ∈ U, 0 ≤ u ∧ u ≤ 255) :
    CallsE Tryd.prog 10 #[.agg #[.int .u8 N, .slice a n c]] w (Ret w fun v cs => ∃ o : Dw.Os, v = gv (N.toNat % 8 : Nat) o.a o.n o.c ∧ cs = [.hp o.h] ∧ OwnO fE 58 2 o (netE (N.toNat % 8) U)) := by
  have hlen := hL.len
  obtain ⟨M, hM⟩ : ∃ M, M = N.toNat % 8 := ⟨_, rfl⟩
  have hM7 : M ≤ 7 := by omega
  rw [← hM]
  have hMM : M * M ≤ 49 := Nat.mul_le_mul hM7 hM7
  refine enter (X := cx 60) (cxg _) (args := [.agg #[.int .u8 N, .slice a n c]]) [.cell 2 28] Tryd.func10 rfl rfl rfl rfl rfl ?_
  intro b1 b2
  refine qRemN N.toNat 8 (by omega) rfl (by decide) ?_
  rw [← hM]
  refine nw (by omega) (by omega) ?_
  intro b4
  refine NeedL.mk (Nat × Dw.Os) (fun g => [(1, .bx 1 0), (2, .bx 2 0), (3, .v (.int .i64 M)), (4, .bx 3 0), (5, .v (.int .i64 g.1))])
    (fun g => [.hp (Hp.whole w), .box b1 [.int .u8 N, .slice a n c] 24, .box b2 [.int .i64 0, .slice none 0 0] 28, .box b4 [.int .i64 M, .slice g.2.a g.2.n g.2.c] 28, .hp g.2.h])
    (fun g => g.1 ≤ M * M ∧ OwnO fE 58 2 g.2 (netK M U g.1)) (fun g => M * M - g.1) (0, Os.nil) ⟨Nat.zero_le _, OwnO.nil _ _ _⟩ (Ent.mk (fun _ _ h => h.emp) rfl rfl) ?_
  rintro ⟨i, o1⟩ ⟨hi, ho⟩
  dsimp only at *
  refine nw (by omega) (by omega) ?_
  refine bsplitd (fun hlt => ?_) (fun hge => ?_)
  · have hM0 : 0 < M := by rcases Nat.eq_zero_or_pos M with h | h; · subst h; omega
                           · exact h
    have hdl : i / M ≤ i := Nat.div_le_self _ _
    have hml : i % M < M := Nat.mod_lt _ hM0
    have hdn : (0 : Int) ≤ ((i / M : Nat) : Int) := Int.natCast_nonneg _
    have st := netK_succ M U i
    have hl := netK_len M U i
    have hi' : i < M * M := by omega
    refine NeedL.mk Nat (fun k => [(1, .bx 1 0), (2, .bx 2 0), (3, .v (.int .i64 M)), (4, .bx 3 0), (5, .v (.int .i64 i)), (6, .v (.int .i64 k))])
      (fun _ => [.hp (Hp.whole w), .box b1 [.int .u8 N, .slice a n c] 24, .box b2 [.int .i64 0, .slice none 0 0] 28, .box b4 [.int .i64 M, .slice o1.a o1.n o1.c] 28, .hp o1.h])
      (fun k => k ≤ n ∧ k ≤ 40 ∧ ((U.take k).any fun u => decide (u % 49 = ((i / M * 7 + i % M : Nat) : Int))) = false) (fun k => n - k) 0 ⟨Nat.zero_le _, Nat.zero_le _, rfl⟩ (Ent.mk (fun _ _ h => h) rfl rfl) ?_
    rintro k ⟨hk, hk40, hno⟩
    refine bsplitd (fun hkl => ?_) (fun hkg => ?_)
    · refine bsplitd (fun hk4 => ?_) (fun hk4 => ?_)
      · have hk' : k < U.length := by omega
        obtain ⟨u1, u2⟩ := hU _ (List.getElem_mem hk')
        refine NeedD.by_order (cxg _) (.take 0 <| .take 1 <| .take 2 <| .take 3 <| .take 4 <| .take 5 <| .take 6 <| .take 7 <| .take 8 <| .take 9 <| .take 10 <| .take 11 <| .take 12 <| .take 13 <| .take 14 <| .take 15 <| .done) (by kernel_rfl) ?_
        refine idx (cxg _) (e := 5) rfl hL k rfl hk' (fun b o cs hcs hR hcell => ?_)
        subst hR
        refine ld1 (cxg _) (i := 0) rfl (hcell 0 _ rfl) rfl ?_
        refine nw (by omega) (by omega) ?_
        refine qRemN U[k].toNat 49 (by omega) rfl (by decide) ?_
        refine qQuoN i M rfl rfl hM0 (by omega) ?_
        refine nw (by omega) (by omega) ?_
        refine qRemN i M rfl rfl hM0 ?_
        refine nw (by omega) (by omega) ?_
        have hsn := any_snoc (p := fun u : Int => decide (u % 49 = ((i / M * 7 + i % M : Nat) : Int))) hk'
        rw [hno] at hsn
        have hrm : ((U[k].toNat % 49 : Nat) : Int) = U[k] % 49 := by omega
        refine bsplitd (fun heq => ?_) (fun hne => ?_)
        · have hyes : netH M U i = true := any_hit (k := k) (by rw [List.length_take]; omega) (by
            rw [List.getElem_take]; exact decide_eq_true (by omega))
          rw [if_pos hyes] at st
          refine NeedD.by_order0 (cxg _) (.take 0 <| .take 1 <| .take 2 <| .take 3 <| .take 4 <| .take 5 <| .take 6 <| .take 7 <| .take 8 <| .run 9 <| .run 10 <| .run 11 <| .run 12 <| .done) (by kernel_rfl) (subL_blank _ 4) ?_
          refine qQuoN i M rfl rfl hM0 (by omega) ?_
          refine qRemN i M rfl rfl hM0 ?_
          intro b56
          refine ⟨(by repeat first | exact trivial | refine ⟨.inl rfl, ?_⟩ | refine ⟨.inr rfl, ?_⟩), ?_⟩
          refine appO (cxg _) (e := 58) rfl (i := 4) rfl ho (j := 5) (((i / M : Nat) : Int), ((i % M : Nat) : Int)) rfl rfl rfl rfl (by omega) (fun o' ho' => ⟨(by repeat first | exact trivial | refine ⟨.inl rfl, ?_⟩ | refine ⟨.inr rfl, ?_⟩), ?_⟩)
          refine nw (by omega) (by omega) ?_
          exact ⟨(i + 1, o'), ⟨by dsimp only; omega, by dsimp only; rw [st]; exact ho'⟩, by dsimp only; omega, Ent.mk (fun _ _ h => h.pick [0, 1, 2, 3, 4] rfl rfl) rfl rfl⟩
        · refine nw (by omega) (by omega) ?_
          exact ⟨k + 1, ⟨by omega, by omega, by rw [hsn, Bool.false_or]; exact decide_eq_false (by omega)⟩, by omega, Ent.mk (fun _ _ h => h) rfl rfl⟩
      · have hnh : netH M U i = false := by unfold netH; rw [← show k = 40 by omega]; exact hno
        rw [hnh] at st
        refine nw (by omega) (by omega) ?_
        exact ⟨(i + 1, o1), ⟨by dsimp only; omega, by dsimp only; rw [st]; exact ho⟩, by dsimp only; omega, Ent.mk (fun _ _ h => h) rfl rfl⟩
    · have hnh : netH M U i = false := by
        unfold netH; rw [List.take_of_length_le (by omega)]; rw [List.take_of_length_le (by omega)] at hno; exact hno
      rw [hnh] at st
      refine nw (by omega) (by omega) ?_
      exact ⟨(i + 1, o1), ⟨by dsimp only; omega, by dsimp only; rw [st]; exact ho⟩, by dsimp only; omega, Ent.mk (fun _ _ h => h) rfl rfl⟩
  · rw [show i = M * M by omega] at ho
    exact ⟨[.hp o1.h], ⟨o1, rfl, rfl, ho⟩, fun w' h => h.pick [0, 4] rfl rfl⟩
end Go.Proofs.YtbcjdjlihhlkaaaDoor
namespace Go.Proofs.YtbcjdjlihhlkaaaDoor
open Go Go.RowKit Go.Dw
theorem netE_mem {M : Nat} {U : List Int} {x : Int × Int} (h : x ∈ netE M U) : ∃ v : Nat, v < M * M ∧ netH M U v = true ∧ x = (((v / M : Nat) : Int), ((v % M : Nat) : Int)) := by
  obtain ⟨v, hv, rfl⟩ := List.mem_map.1 h
  obtain ⟨h1, h2⟩ := List.mem_filter.1 hv
  exact ⟨v, List.mem_range.1 h1, h2, rfl⟩
theorem net_gr {M : Nat} (hM : M ≤ 7) (U : List Int) : Gr M (netE M U) := by
  refine ⟨by omega, fun e he => ?_, ?_⟩
  · obtain ⟨v, hv, _, rfl⟩ := netE_mem he
    have hM0 : 0 < M := by rcases Nat.eq_zero_or_pos M with h | h
                           · subst h; omega
                           · exact h
    have h1 : v / M < M := (Nat.div_lt_iff_lt_mul hM0).2 hv
    have h2 : v % M < M := Nat.mod_lt _ hM0
    exact ⟨Int.natCast_nonneg _, Int.ofNat_lt.2 h1, Int.natCast_nonneg _, Int.ofNat_lt.2 h2⟩
  · have := netK_len M U (M * M)
    have hMM : M * M ≤ 49 := Nat.mul_le_mul hM hM
    unfold netE; omega
theorem net_srt (M : Nat) (U : List Int) : Srt (netE M U) := by
  unfold netE netK Srt
  refine List.pairwise_map.2 (((pw_range _).filter _).imp fun {a b} h => ?_)
  unfold elt
  dsimp only
  have hd : a / M ≤ b / M := Nat.div_le_div_right (Nat.le_of_lt h)
  by_cases he : a / M = b / M
  · refine .inr ⟨by rw [he], ?_⟩
    have h1 := Nat.div_add_mod a M
    have h2 := Nat.div_add_mod b M
    rw [he] at h1
    exact Int.ofNat_lt.2 (by omega)
  · exact .inl (Int.ofNat_lt.2 (by omega))
theorem net_check {M : Nat} (hM : M ≤ 7) (U : List Int) : checkF M (netE M U) = 0 := by
  have hG := net_gr hM U
  have hl : (netE M U).length ≤ M * M := netK_len M U (M * M)
  have ho : (netE M U).any (outF (M : Int)) = false := by
    rw [List.any_eq_false]
    intro e he
    obtain ⟨a1, a2, a3, a4⟩ := hG.rng e he
    unfold outF beyondF
    simp only [Bool.or_eq_true, decide_eq_true_eq, not_or]
    omega
  unfold checkF
  rw [if_neg (by omega), if_neg (by rw [← Int.natCast_mul]; omega), ho, if_neg (by decide), srt_sortedF (net_srt M U), if_pos rfl]
theorem tb1 {a n : Nat} : (((a >>> n &&& 1 : Nat) : Int) = 1) ↔ a.testBit n = true := by
  rw [Nat.testBit_eq_decide_div_mod_eq, decide_eq_true_eq, Nat.and_one_is_mod, Nat.shiftRight_eq_div_pow]; omega
theorem tb0 {a n : Nat} : (((a >>> n &&& 1 : Nat) : Int) = 0) ↔ a.testBit n = false := by
  rw [Nat.testBit_eq_decide_div_mod_eq, decide_eq_false_iff_not, Nat.and_one_is_mod, Nat.shiftRight_eq_div_pow]; omega
theorem pow_lt63 {n : Nat} (hn : n < 63) : 2 ^ n < 9223372036854775808 := Nat.lt_of_lt_of_le (Nat.pow_lt_pow_right (by decide) hn) (by decide)
theorem and1_lt {a : Nat} : a &&& 1 < 9223372036854775808 := by rw [Nat.and_one_is_mod]; omega
theorem or_lt63 {a b : Nat} (ha : a < 9223372036854775808) (hb : b < 9223372036854775808) : a ||| b < 9223372036854775808 := Nat.or_lt_two_pow (n := 63) ha hb
/-! ### nodes -/
def nodK (s k : Nat) : List Int := ((List.range k).filter fun i => s.testBit i).map fun v : Nat => (v : Int)
theorem nodK_succ (s k : Nat) : nodK s (k + 1) = if s.testBit k then nodK s k ++ [(k : Int)] else nodK s k := by
  unfold nodK
  rw [List.range_succ, List.filter_append, List.map_append]
  by_cases h : s.testBit k <;> simp [h]
theorem nodK_len (s k : Nat) : (nodK s k).length ≤ k := by
  unfold nodK; rw [List.length_map]; exact Nat.le_trans (List.length_filter_le _ _) (by simp)
theorem nodK_stop {s k : Nat} (h : s >>> k = 0) : ∀ d, nodK s (k + d) = nodK s k
  | 0 => rfl
  | d + 1 => by
    have hb : s.testBit (k + d) = false := by
      rw [Nat.add_comm, Nat.testBit_add, ← Nat.shiftRight_eq_div_pow, h, Nat.zero_testBit]
    rw [← Nat.add_assoc, nodK_succ, hb, if_neg (by decide), nodK_stop h d]
theorem modNodes_spec (s : Nat) (hs : s < 9223372036854775808) (w : World) :
    CallsE Tryd.prog 18 #[.int .i64 s] w (Ret w fun v cs => ∃ o : Dw.Os, v = o.v ∧ cs = [.hp o.h] ∧ OwnO fI 3 1 o (nod s)) := by
  refine enter (X := cx 21) (cxg _) (args := [.int .i64 s]) [.tmp 2] Tryd.func18 rfl rfl rfl rfl rfl ?_
  refine NeedL.mk (Nat × Dw.Os) (fun g => [(0, .v (.int .i64 s)), (3, .v g.2.v), (4, .v (.int .i64 g.1))]) (fun g => [.hp (Hp.whole w), .hp g.2.h])
    (fun g => g.1 ≤ 63 ∧ OwnO fI 3 1 g.2 (nodK s g.1)) (fun g => 64 - g.1) (0, Os.nil) ⟨Nat.zero_le _, OwnO.nil _ _ _⟩ (Ent.mk (fun _ _ h => h.emp) rfl rfl) ?_
  rintro ⟨k, o⟩ ⟨hk, ho⟩
  dsimp only at *
  refine qShrI s k rfl rfl (by omega) ?_
  refine bsplitd (fun hgt => ?_) (fun hge => ?_)
  · have st := nodK_succ s k
    have hl := nodK_len s k
    have hk63 : k < 63 := by
      rcases Nat.lt_or_ge k 63 with h | h
      · exact h
      · rw [show k = 63 by omega, Nat.shiftRight_eq_div_pow, Nat.div_eq_of_lt hs] at hgt; omega
    refine qShrI s k rfl rfl (by omega) ?_
    refine qAndI (s >>> k) 1 rfl rfl (by have := shr_le s k; omega) (by decide) ?_
    refine bsplitd (fun hb => ?_) (fun hb => ?_)
    · rw [if_pos (tb1.1 hb)] at st
      intro b4
      refine appO (cxg _) (e := 3) rfl (i := 1) rfl ho (j := 2) (k : Int) rfl rfl rfl rfl (by omega) (fun o' ho' => ?_)
      refine nw (by omega) (by omega) ?_
      exact ⟨(k + 1, o'), ⟨by dsimp only; omega, by dsimp only; rw [st]; exact ho'⟩, by dsimp only; omega, Ent.mk (fun _ _ h => h.pick [0, 1] rfl rfl) rfl rfl⟩
    · rw [if_neg (fun h => hb (tb1.2 h))] at st
      refine nw (by omega) (by omega) ?_
      exact ⟨(k + 1, o), ⟨by dsimp only; omega, by dsimp only; rw [st]; exact ho⟩, by dsimp only; omega, Ent.mk (fun _ _ h => h) rfl rfl⟩
  · have h0 : s >>> k = 0 := Int.ofNat_eq_zero.1 (Int.le_antisymm (Int.not_lt.1 hge) (Int.natCast_nonneg _))
    have : nod s = nodK s k := by
      rw [← nodK_stop h0 (64 - k), show k + (64 - k) = 64 by omega]; rfl
    rw [← this] at ho
    exact ⟨[.hp o.h], ⟨o, rfl, rfl, ho⟩, fun w' h => h⟩
/-! ### bits -/
theorem ofN_lt63 {L : List Int} (h : ∀ x ∈ L, 0 ≤ x ∧ x < 63) : ofN L < 9223372036854775808 := by
  refine Nat.lt_pow_two_of_testBit (n := 63) _ fun v hv => ?_
  rw [ofN_bit fun x hx => (h x hx).1]
  refine decide_eq_false fun hm => ?_
  have := h _ hm; omega
theorem modBits_spec {a : Option Addr} {n c : Nat} {L : List Int} (w : World) (hL : Sl (encF fI) 1 (Hp.whole w) a n c L) (hr : ∀ x ∈ L, 0 ≤ x ∧ x < 63) (hn : n < 1000000000) :
    CallsE Tryd.prog 23 #[.slice a n c] w (RetV w (.int .i64 (ofN L : Nat))) := by
  have hlen := hL.len
  refine enter (X := cx 19) (cxg _) (args := [.slice a n c]) [.tmp 2] Tryd.func23 rfl rfl rfl rfl rfl ?_
  refine NeedL.mk Nat (fun k => [(0, .v (.slice a n c)), (3, .v (.int .i64 (ofN (L.take k) : Nat))), (4, .v (.int .i64 k))]) (fun _ => [.hp (Hp.whole w)])
    (fun k => k ≤ n) (fun k => n - k) 0 (Nat.zero_le _) (Ent.mk (fun _ _ h => h) rfl rfl) ?_
  rintro k hk
  refine bsplitd (fun hlt => ?_) (fun hge => ?_)
  · have hlt' : k < L.length := by omega
    obtain ⟨r1, r2⟩ := hr _ (List.getElem_mem hlt')
    refine idx (cxg _) (e := 3) rfl hL k rfl hlt' (fun b o cs hcs hR hcell => ?_)
    subst hR
    refine ld1 (cxg _) (i := 0) rfl (hcell 0 _ rfl) rfl ?_
    refine qShlI L[k].toNat rfl (by omega) (by omega) ?_
    refine qOrI (ofN (L.take k)) (2 ^ L[k].toNat) rfl rfl (ofN_lt63 fun x hx => hr x (List.mem_of_mem_take hx)) (pow_lt63 (by omega)) ?_
    refine nw (by omega) (by omega) ?_
    have e : ofN (L.take (k + 1)) = ofN (L.take k) ||| 2 ^ L[k].toNat := by
      unfold ofN; rw [List.take_succ_eq_append_getElem hlt', List.foldl_append]; rfl
    exact ⟨k + 1, by omega, by omega, Ent.mk (fun _ _ h => h) (by rw [e]; rfl) rfl⟩
  · rw [List.take_of_length_le (by omega)]
    exact ⟨[], ⟨rfl, rfl⟩, fun w' h => h⟩
/-! ### closed -/
def clsE (E : List (Int × Int)) (s : Nat) : Bool := E.all fun e => !s.testBit e.1.toNat || s.testBit e.2.toNat
theorem all_hit {α : Type} {p : α → Bool} {L : List α} {k : Nat} (hk : k < L.length) (e : p L[k] = false) : L.all p = false := by
  cases h : L.all p with
  | false => rfl
  | true => rw [List.all_eq_true.1 h _ (List.getElem_mem hk)] at e; cases e
theorem all_snoc {α : Type} {p : α → Bool} {L : List α} {k : Nat} (hk : k < L.length) (h : (L.take k).all p = true) (e : p L[k] = true) : (L.take (k + 1)).all p = true := by
  rw [List.take_succ_eq_append_getElem hk, List.all_append, h, List.all_cons, e]; rfl
theorem modClosed_spec {a : Option Addr} {n c : Nat} {E : List (Int × Int)} (N : Nat) (w : World) (hL : Sl (encF fE) 2 (Hp.whole w) a n c E) (hG : Gr N E) (hN : N ≤ 63) (s : Nat) (hs : s < 9223372036854775808) :
    CallsE Tryd.prog 17 #[gv N a n c, .int .i64 s] w (RetV w (.bool (clsE E s))) := by
  have hlen := hL.len
  have hEl := hG.len
  refine enter (X := cx 35) (cxg _) (args := [.agg #[.int .i64 N, .slice a n c], .int .i64 s]) [.tmp 4] Tryd.func17 rfl rfl rfl rfl rfl ?_
  intro b1
  refine NeedL.mk Nat (fun k => [(1, .v (.int .i64 s)), (2, .bx 1 0), (5, .v (.int .i64 k))]) (fun _ => [.hp (Hp.whole w), .box b1 [.int .i64 N, .slice a n c] 28])
    (fun k => k ≤ n ∧ ((E.take k).all fun e => !s.testBit e.1.toNat || s.testBit e.2.toNat) = true) (fun k => n - k) 0 ⟨Nat.zero_le _, rfl⟩ (Ent.mk (fun _ _ h => h) rfl rfl) ?_
  rintro k ⟨hk, ho⟩
  refine bsplitd (fun hlt => ?_) (fun hge => ?_)
  · have hlt' : k < E.length := by omega
    obtain ⟨r1, r2, r3, r4⟩ := hG.rng _ (List.getElem_mem hlt')
    have hsl := shr_le s
    refine hideQ (fun q' hq' => ?_)
    refine idx (cxg _) (e := 58) rfl hL k rfl hlt' (fun b o cs hcs hR hcell => ?_)
    subst hR
    refine ld1 (cxg _) (i := 0) rfl (hcell 0 _ rfl) rfl ?_
    refine qShrI s E[k].1.toNat rfl (by omega) (by omega) ?_
    refine qAndI (s >>> E[k].1.toNat) 1 rfl rfl (by have := hsl E[k].1.toNat; omega) (by decide) ?_
    refine bsplitd (fun hb => ?_) (fun hb => ?_)
    · refine idx (cxg _) (e := 58) rfl hL k rfl hlt' (fun b o cs hcs hR hcell => ?_)
      subst hR
      refine ld1 (cxg _) (i := 0) rfl (hcell 1 _ rfl) rfl ?_
      refine qShrI s E[k].2.toNat rfl (by omega) (by omega) ?_
      refine qAndI (s >>> E[k].2.toNat) 1 rfl rfl (by have := hsl E[k].2.toNat; omega) (by decide) ?_
      refine hq' _ _ ?_
      refine bsplitd (fun hb2 => ?_) (fun hb2 => ?_)
      · have : clsE E s = false := all_hit hlt' (by rw [tb1.1 hb, tb0.1 hb2]; rfl)
        exact ⟨[], ⟨by rw [this], rfl⟩, fun w' h => h.pick [0] rfl rfl⟩
      · have e2 : s.testBit E[k].2.toNat = true := by
          cases h : s.testBit E[k].2.toNat with
          | true => rfl
          | false => exact absurd (tb0.2 h) hb2
        refine nw (by omega) (by omega) ?_
        exact ⟨k + 1, ⟨by omega, all_snoc hlt' ho (by rw [e2, Bool.or_true])⟩, by omega, Ent.mk (fun _ _ h => h) rfl rfl⟩
    · have e1 : s.testBit E[k].1.toNat = false := by
        cases h : s.testBit E[k].1.toNat with
        | false => rfl
        | true => exact absurd (tb1.2 h) hb
      refine hq' _ _ ?_
      refine nw (by omega) (by omega) ?_
      exact ⟨k + 1, ⟨by omega, all_snoc hlt' ho (by rw [e1]; rfl)⟩, by omega, Ent.mk (fun _ _ h => h) rfl rfl⟩
  · rw [List.take_of_length_le (by omega)] at ho
    exact ⟨[], ⟨by unfold clsE; rw [ho], rfl⟩, fun w' h => h.pick [0] rfl rfl⟩
/-! ### hull -/
def passM (E : List (Int × Int)) (s : Nat) : Nat := E.foldl (fun s e => if s.testBit e.1.toNat then s ||| 2 ^ e.2.toNat else s) s
def hulM (E : List (Int × Int)) : Nat → Nat → Nat
  | 0, s => s
  | r + 1, s => passM E (hulM E r s)
theorem pass_lt {N : Nat} (hN : N ≤ 63) : ∀ {E : List (Int × Int)} {s : Nat}, (∀ e ∈ E, 0 ≤ e.1 ∧ e.1 < N ∧ 0 ≤ e.2 ∧ e.2 < (N : Int)) → s < 9223372036854775808 → passM E s < 9223372036854775808
  | [], s, _, hs => hs
  | e :: r, s, h, hs => by
    show passM r _ < _
    refine pass_lt hN (fun x hx => h x (by simp [hx])) ?_
    obtain ⟨_, _, h3, h4⟩ := h e (by simp)
    dsimp only
    split
    · exact or_lt63 hs (pow_lt63 (by omega))
    · exact hs
theorem pass_snoc (E : List (Int × Int)) (s : Nat) {k : Nat} (hk : k < E.length) : passM (E.take (k + 1)) s = if (passM (E.take k) s).testBit E[k].1.toNat then passM (E.take k) s ||| 2 ^ E[k].2.toNat else passM (E.take k) s := by
  unfold passM; rw [List.take_succ_eq_append_getElem hk, List.foldl_append]; rfl
theorem hul_lt63 {N : Nat} {E : List (Int × Int)} (hG : Gr N E) (hN : N ≤ 63) {s : Nat} (hs : s < 9223372036854775808) : ∀ r, hulM E r s < 9223372036854775808
  | 0 => hs
  | r + 1 => pass_lt hN hG.rng (hul_lt63 hG hN hs r)
theorem modHull_spec {a : Option Addr} {n c : Nat} {E : List (Int × Int)} (N : Nat) (w : World) (hL : Sl (encF fE) 2 (Hp.whole w) a n c E) (hG : Gr N E) (hN : N ≤ 63) (s : Nat) (hs : s < 9223372036854775808) :
    CallsE Tryd.prog 22 #[gv N a n c, .int .i64 s] w (RetV w (.int .i64 (hulM E N s : Nat))) := by
  have hlen := hL.len
  have hEl := hG.len
  refine enter (X := cx 40) (cxg _) (args := [.agg #[.int .i64 N, .slice a n c], .int .i64 s]) [.tmp 4] Tryd.func22 rfl rfl rfl rfl rfl ?_
  intro b1
  refine NeedL.mk Nat (fun r => [(1, .v (.int .i64 (hulM E r s : Nat))), (2, .bx 1 0), (5, .v (.int .i64 r))]) (fun _ => [.hp (Hp.whole w), .box b1 [.int .i64 N, .slice a n c] 28])
    (fun r => r ≤ N) (fun r => N - r) 0 (Nat.zero_le _) (Ent.mk (fun _ _ h => h) rfl rfl) ?_
  rintro r hr
  refine bsplitd (fun hlt => ?_) (fun hge => ?_)
  · obtain ⟨t, ht⟩ : ∃ t, t = hulM E r s := ⟨_, rfl⟩
    have htl : t < 9223372036854775808 := by rw [ht]; exact hul_lt63 hG hN hs r
    have hnx : hulM E (r + 1) s = passM E t := by rw [ht]; rfl
    rw [← ht]
    refine NeedL.mk Nat (fun k => [(1, .v (.int .i64 (passM (E.take k) t : Nat))), (2, .bx 1 0), (5, .v (.int .i64 r)), (6, .v (.int .i64 k))]) (fun _ => [.hp (Hp.whole w), .box b1 [.int .i64 N, .slice a n c] 28])
      (fun k => k ≤ n) (fun k => n - k) 0 (Nat.zero_le _) (Ent.mk (fun _ _ h => h) rfl rfl) ?_
    rintro k hk
    refine bsplitd (fun hkl => ?_) (fun hkg => ?_)
    · have hlt' : k < E.length := by omega
      obtain ⟨r1, r2, r3, r4⟩ := hG.rng _ (List.getElem_mem hlt')
      have st := pass_snoc E t hlt'
      have hu : passM (E.take k) t < 9223372036854775808 := pass_lt hN (fun e he => hG.rng e (List.mem_of_mem_take he)) htl
      obtain ⟨u, hud⟩ : ∃ u, u = passM (E.take k) t := ⟨_, rfl⟩
      rw [← hud] at hu st
      rw [← hud]
      have hsl := shr_le u
      refine idx (cxg _) (e := 58) rfl hL k rfl hlt' (fun b o cs hcs hR hcell => ?_)
      subst hR
      refine ld1 (cxg _) (i := 0) rfl (hcell 0 _ rfl) rfl ?_
      refine qShrI u E[k].1.toNat rfl (by omega) (by omega) ?_
      refine qAndI (u >>> E[k].1.toNat) 1 rfl rfl (by have := hsl E[k].1.toNat; omega) (by decide) ?_
      refine bsplitd (fun hb => ?_) (fun hb => ?_)
      · rw [if_pos (tb1.1 hb)] at st
        refine idx (cxg _) (e := 58) rfl hL k rfl hlt' (fun b o cs hcs hR hcell => ?_)
        subst hR
        refine ld1 (cxg _) (i := 0) rfl (hcell 1 _ rfl) rfl ?_
        refine qShlI E[k].2.toNat rfl (by omega) (by omega) ?_
        refine qOrI u (2 ^ E[k].2.toNat) rfl rfl hu (pow_lt63 (by omega)) ?_
        refine nw (by omega) (by omega) ?_
        exact ⟨k + 1, by omega, by omega, Ent.mk (fun _ _ h => h) (by rw [st]; rfl) rfl⟩
      · rw [if_neg (fun h => hb (tb1.2 h))] at st
        refine nw (by omega) (by omega) ?_
        exact ⟨k + 1, by omega, by omega, Ent.mk (fun _ _ h => h) (by rw [st]; rfl) rfl⟩
    · rw [List.take_of_length_le (by omega)]
      refine nw (by omega) (by omega) ?_
      exact ⟨r + 1, by omega, by omega, Ent.mk (fun _ _ h => h) (by rw [hnx]; rfl) rfl⟩
  · rw [show r = N by omega]
    exact ⟨[], ⟨rfl, rfl⟩, fun w' h => h.pick [0] rfl rfl⟩
end Go.Proofs.YtbcjdjlihhlkaaaDoor
namespace Go.Proofs.YtbcjdjlihhlkaaaDoor
open Go Go.RowKit Go.Dw
theorem pass_mono : ∀ {E : List (Int × Int)} {s v : Nat}, s.testBit v = true → (passM E s).testBit v = true
  | [], _, _, h => h
  | e :: r, s, v, h => by
    show (passM r _).testBit v = true
    refine pass_mono ?_
    dsimp only
    split
    · rw [Nat.testBit_or, h]; rfl
    · exact h
theorem pass_edge : ∀ {E : List (Int × Int)} {s : Nat} {e : Int × Int}, e ∈ E → s.testBit e.1.toNat = true → (passM E s).testBit e.2.toNat = true
  | f :: r, s, e, he, h => by
    show (passM r _).testBit e.2.toNat = true
    rcases List.mem_cons.1 he with rfl | he
    · refine pass_mono ?_
      dsimp only
      rw [if_pos h, Nat.testBit_or, Nat.testBit_two_pow_self, Bool.or_true]
    · refine pass_edge he ?_
      dsimp only
      split
      · rw [Nat.testBit_or, h]; rfl
      · exact h
theorem pass_sound {P : Nat → Prop} : ∀ {E : List (Int × Int)} {s : Nat}, (∀ e ∈ E, P e.1.toNat → P e.2.toNat) → (∀ v, s.testBit v = true → P v) → ∀ v, (passM E s).testBit v = true → P v
  | [], _, _, h, v, hv => h v hv
  | e :: r, s, hE, h, v, hv => by
    refine pass_sound (E := r) (fun x hx => hE x (by simp [hx])) ?_ v (show (passM r _).testBit v = true from hv)
    dsimp only
    intro u hu
    split at hu
    · rename_i he
      rw [Nat.testBit_or, Nat.testBit_two_pow, Bool.or_eq_true] at hu
      rcases hu with hu | hu
      · exact h u hu
      · rw [← of_decide_eq_true hu]
        exact hE e (by simp) (h _ he)
    · exact h u hu
theorem hul_mono {E : List (Int × Int)} {s v : Nat} (h : s.testBit v = true) : ∀ r, (hulM E r s).testBit v = true
  | 0 => h
  | r + 1 => pass_mono (hul_mono h r)
theorem hul_sound {P : Nat → Prop} {E : List (Int × Int)} {s : Nat} (hE : ∀ e ∈ E, P e.1.toNat → P e.2.toNat) (h : ∀ v, s.testBit v = true → P v) : ∀ r v, (hulM E r s).testBit v = true → P v
  | 0, v, hv => h v hv
  | r + 1, v, hv => pass_sound hE (hul_sound hE h r) v hv
theorem hul_far {N : Nat} {E : List (Int × Int)} (hG : Gr N E) {s x : Nat} (hx : x < N) (hs : s.testBit x = true) : ∀ (k r : Nat) {y : Nat}, k ≤ r → wlk E k x y = true → (hulM E r s).testBit y = true
  | 0, r, y, _, h => by
    have : (x : Int) = y := by unfold wlk at h; exact of_decide_eq_true h
    have : x = y := by omega
    subst this
    exact hul_mono hs r
  | k + 1, 0, y, h, _ => by omega
  | k + 1, r + 1, y, h, hw => by
    obtain ⟨c, hc, hwc⟩ := wlk_succ.1 hw
    obtain ⟨c1, c2⟩ := wlk_rng hG (by omega) hwc
    obtain ⟨c', rfl⟩ : ∃ c' : Nat, c = c' := ⟨c.toNat, by omega⟩
    have := hul_far hG hx hs k r (by omega) hwc
    exact pass_edge (e := ((c' : Int), (y : Int))) hc (by simpa using this)
theorem hul_bit {N : Nat} {E : List (Int × Int)} (hG : Gr N E) {s : Nat} (hs : ∀ v, s.testBit v = true → v < N) {y : Nat} : (hulM E N s).testBit y = true ↔ ∃ x : Nat, s.testBit x = true ∧ ∃ k, wlk E k x y = true := by
  constructor
  · refine hul_sound (P := fun y => ∃ x : Nat, s.testBit x = true ∧ ∃ k, wlk E k x y = true) (fun e he => ?_) (fun v hv => ⟨v, hv, 0, by unfold wlk; exact decide_eq_true rfl⟩) N y
    rintro ⟨x, hx, k, hk⟩
    obtain ⟨r1, r2, r3, r4⟩ := hG.rng e he
    rw [Int.toNat_of_nonneg r1] at hk
    exact ⟨x, hx, k + 1, wlk_succ.2 ⟨e.1, by rw [Int.toNat_of_nonneg r3]; exact he, hk⟩⟩
  · rintro ⟨x, hx, k, hk⟩
    have hxN := hs x hx
    obtain ⟨t, ht, hw⟩ := wlk_short hG (by omega) hk
    exact hul_far hG hxN hx t N (by omega) hw
theorem hul_rng {N : Nat} {E : List (Int × Int)} (hG : Gr N E) {s : Nat} (hs : ∀ v, s.testBit v = true → v < N) (r : Nat) : ∀ v, (hulM E r s).testBit v = true → v < N :=
  hul_sound (P := fun v => v < N) (fun e he _ => by obtain ⟨r1, r2, r3, r4⟩ := hG.rng e he; omega) hs r
theorem nod_rng {s N : Nat} (hN : N ≤ 64) (h : ∀ v, s.testBit v = true → v < N) : nod s = nodK s N := by
  have h0 : s >>> N = 0 := Nat.eq_of_testBit_eq fun i => by
    rw [Nat.testBit_shiftRight, Nat.zero_testBit]
    cases hb : s.testBit (N + i) with
    | false => rfl
    | true => have := h _ hb; omega
  rw [← nodK_stop h0 (64 - N), show N + (64 - N) = 64 by omega]; rfl
theorem ofN_rng {L : List Int} {N : Nat} (h : ∀ x ∈ L, 0 ≤ x ∧ x < N) : ∀ v, (ofN L).testBit v = true → v < N := fun v hv => by
  rw [ofN_bit fun x hx => (h x hx).1] at hv
  have := h _ (of_decide_eq_true hv); omega
theorem hul_rea {N : Nat} {E : List (Int × Int)} (hG : Gr N E) {L : List Int} (h : ∀ x ∈ L, 0 ≤ x ∧ x < N) : nod (hulM E N (ofN L)) = reaK N E L N := by
  have hr := ofN_rng h
  rw [nod_rng hG.hN (hul_rng hG hr N)]
  unfold nodK reaK
  congr 1
  refine List.filter_congr fun v hv => ?_
  rw [Bool.eq_iff_iff, hul_bit hG hr, isR_iff hG h]
  constructor
  · rintro ⟨x, hx, k, hk⟩
    rw [ofN_bit fun x hx => (h x hx).1] at hx
    exact ⟨x, of_decide_eq_true hx, k, hk⟩
  · rintro ⟨x, hx, k, hk⟩
    obtain ⟨x1, x2⟩ := h x hx
    refine ⟨x.toNat, ?_, k, by rw [Int.toNat_of_nonneg x1]; exact hk⟩
    rw [ofN_bit fun x hx => (h x hx).1]
    exact decide_eq_true (by rw [Int.toNat_of_nonneg x1]; exact hx)
end Go.Proofs.YtbcjdjlihhlkaaaDoor
namespace Go.Proofs.YtbcjdjlihhlkaaaDoor
open Go Go.RowKit Go.Dw
section
variable {allow : Nat → Bool} {H : List Nat}
theorem step_in (s : Nat) (out : List Nat) (h : Nat) : (s ||| h) ∈ stepH allow s out h ∨ (s ||| h) = s ∨ allow (s ||| h) = false := by
  unfold stepH
  split
  · assumption
  · exact .inl (by simp)
theorem fold_in (s : Nat) : ∀ (M out : List Nat) (h : Nat), h ∈ M → (s ||| h) ∈ M.foldl (stepH allow s) out ∨ (s ||| h) = s ∨ allow (s ||| h) = false
  | x :: M, out, h, hm => by
    rcases List.mem_cons.1 hm with rfl | hm
    · rcases step_in (allow := allow) s out h with h1 | h1
      · exact .inl ((fold_pre s M _).subset h1)
      · exact .inr h1
    · exact fold_in s M _ h hm
theorem bfs_all (hH : ∀ h ∈ H, h < 128) {s h : Nat} (hs : s ∈ 0 :: bfsF allow H) (hh : h ∈ H) : (s ||| h) ∈ bfsF allow H ∨ (s ||| h) = s ∨ allow (s ||| h) = false := by
  obtain ⟨i, hsi⟩ := List.getElem?_of_mem hs
  have hi : i < (0 :: bfsF allow H).length := (List.getElem?_eq_some_iff.1 hsi).1
  have hl := fine_len (bfs_fine (allow := allow) hH 200)
  have hi' : i ≤ 128 := by
    rw [List.length_cons] at hi
    unfold bfsF at hi
    omega
  have hg : (0 :: bfsK allow H i)[i]? = some s := by
    cases hq : (0 :: bfsK allow H i)[i]? with
    | none =>
      have e : bfsF allow H = bfsK allow H i := by unfold bfsF; exact bfs_stop hq 200 (by omega)
      rw [← e, hsi] at hq; cases hq
    | some y =>
      obtain ⟨r, hr⟩ := bfs_pre (allow := allow) (H := H) (i := i) (j := 200) (by omega)
      have h2 : (0 :: bfsF allow H)[i]? = some y := by
        unfold bfsF
        rw [← hr, ← List.cons_append, List.getElem?_append_left (List.getElem?_eq_some_iff.1 hq).1]; exact hq
      rw [hsi] at h2
      exact h2.symm
  have hk : bfsK allow H (i + 1) = innS allow H s (bfsK allow H i) := by rw [bfsK, hg]
  rcases fold_in (allow := allow) s H (bfsK allow H i) h hh with h1 | h1
  · left
    have hpre : bfsK allow H (i + 1) <+: bfsF allow H := by unfold bfsF; exact bfs_pre (by omega)
    rw [hk] at hpre
    exact hpre.subset h1
  · exact .inr h1
theorem stepH_un {P : Nat → Prop} {s h : Nat} {out : List Nat} (hs : P s) (hh : ∀ x, P x → P (x ||| h)) (ho : ∀ t ∈ out, t ≠ 0 ∧ allow t = true ∧ P t) : ∀ t ∈ stepH allow s out h, t ≠ 0 ∧ allow t = true ∧ P t := by
  unfold stepH
  split
  · exact ho
  · rename_i hn
    intro t ht
    rcases List.mem_append.1 ht with ht | ht
    · exact ho t ht
    · rw [List.mem_singleton.1 ht]
      refine ⟨fun e => hn (.inr (.inl ?_)), ?_, hh s hs⟩
      · have : s = 0 := (Nat.or_eq_zero_iff.1 e).1
        rw [e, this]
      · cases ha : allow (s ||| h) with
        | true => rfl
        | false => exact absurd (.inr (.inr ha)) hn
theorem fold_un {P : Nat → Prop} {s : Nat} (hs : P s) : ∀ (M out : List Nat), (∀ h ∈ M, ∀ x, P x → P (x ||| h)) → (∀ t ∈ out, t ≠ 0 ∧ allow t = true ∧ P t) → ∀ t ∈ M.foldl (stepH allow s) out, t ≠ 0 ∧ allow t = true ∧ P t
  | [], _, _, ho => ho
  | h :: M, out, hM, ho => fold_un hs M _ (fun x hx => hM x (by simp [hx])) (stepH_un hs (hM h (by simp)) ho)
theorem bfs_un {P : Nat → Prop} (h0 : P 0) (hP : ∀ h ∈ H, ∀ x, P x → P (x ||| h)) : ∀ i, ∀ t ∈ bfsK allow H i, t ≠ 0 ∧ allow t = true ∧ P t
  | 0 => by simp [bfsK]
  | i + 1 => by
    have ih := bfs_un h0 hP i
    rw [bfsK]
    split
    · rename_i s hs
      refine fold_un ?_ _ _ hP ih
      rcases List.mem_cons.1 (List.mem_of_getElem? hs) with rfl | h
      · exact h0
      · exact (ih _ h).2.2
    · exact ih
theorem bfs_has (hH : ∀ h ∈ H, h < 128) {L : List Nat} (hL : ∀ x ∈ L, x ∈ H) (ha : ∀ k, (L.take k).foldl (· ||| ·) 0 ≠ 0 → allow ((L.take k).foldl (· ||| ·) 0) = true) : ∀ k, (L.take k).foldl (· ||| ·) 0 ∈ 0 :: bfsF allow H
  | 0 => by simp
  | k + 1 => by
    have ih := bfs_has hH hL ha k
    by_cases hk : k < L.length
    · have e : (L.take (k + 1)).foldl (· ||| ·) 0 = (L.take k).foldl (· ||| ·) 0 ||| L[k] := by rw [List.take_succ_eq_append_getElem hk, List.foldl_append]; rfl
      have hk1 := ha (k + 1)
      rw [e] at hk1 ⊢
      rcases bfs_all hH ih (hL _ (List.getElem_mem hk)) with h | h | h
      · exact .tail _ h
      · rw [h]; exact ih
      · by_cases h0 : (L.take k).foldl (· ||| ·) 0 ||| L[k] = 0
        · rw [h0]; simp
        · rw [hk1 h0] at h; cases h
    · rw [List.take_of_length_le (by omega)] at ih ⊢
      exact ih
end
theorem orAll_bit (L : List Nat) (y : Nat) : (L.foldl (· ||| ·) 0).testBit y = true ↔ ∃ x ∈ L, x.testBit y = true := by
  have : ∀ (L : List Nat) (a : Nat), (L.foldl (· ||| ·) a).testBit y = true ↔ a.testBit y = true ∨ ∃ x ∈ L, x.testBit y = true := by
    intro L
    induction L with
    | nil => intro a; simp
    | cons x r ih =>
      intro a
      rw [List.foldl_cons, ih, Nat.testBit_or, Bool.or_eq_true]
      simp only [List.mem_cons, exists_eq_or_imp, or_assoc]
  rw [this]; simp
/-! ### closed sets and hulls -/
def Sub (u t : Nat) : Prop := ∀ v, u.testBit v = true → t.testBit v = true
theorem Sub.or {a b t : Nat} (h : Sub a t) (k : Sub b t) : Sub (a ||| b) t := fun v hv => by
  rw [Nat.testBit_or, Bool.or_eq_true] at hv
  exact hv.elim (h v) (k v)
theorem Sub.antisymm {a b : Nat} (h : Sub a b) (k : Sub b a) : a = b := Nat.eq_of_testBit_eq fun v => by
  rw [Bool.eq_iff_iff]; exact ⟨h v, k v⟩
theorem ne0_bit {t : Nat} (h : t ≠ 0) : ∃ v, t.testBit v = true := by
  rcases Classical.em (∃ v, t.testBit v = true) with h' | h'
  · exact h'
  · exact absurd (Nat.eq_of_testBit_eq fun v => by
      rw [Nat.zero_testBit]
      cases hb : t.testBit v with
      | false => rfl
      | true => exact absurd ⟨v, hb⟩ h') h
theorem cls_iff {E : List (Int × Int)} {t : Nat} : clsE E t = true ↔ ∀ e ∈ E, t.testBit e.1.toNat = true → t.testBit e.2.toNat = true := by
  unfold clsE
  rw [List.all_eq_true]
  constructor
  · intro h e he h1
    have := h e he
    rw [h1] at this
    simpa using this
  · intro h e he
    cases h1 : t.testBit e.1.toNat with
    | false => rfl
    | true => rw [h e he h1]; rfl
theorem cls_or {E : List (Int × Int)} {a b : Nat} (ha : clsE E a = true) (hb : clsE E b = true) : clsE E (a ||| b) = true := by
  rw [cls_iff] at *
  intro e he h
  rw [Nat.testBit_or, Bool.or_eq_true] at *
  exact h.elim (fun h => .inl (ha e he h)) (fun h => .inr (hb e he h))
theorem cls_and {E : List (Int × Int)} {a b : Nat} (ha : clsE E a = true) (hb : clsE E b = true) : clsE E (a &&& b) = true := by
  rw [cls_iff] at *
  intro e he h
  rw [Nat.testBit_and, Bool.and_eq_true] at *
  exact ⟨ha e he h.1, hb e he h.2⟩
theorem cls_zero (E : List (Int × Int)) : clsE E 0 = true := cls_iff.2 fun e _ h => by rw [Nat.zero_testBit] at h; cases h
section
variable {N : Nat} {E : List (Int × Int)}
theorem cls_walk (hG : Gr N E) {t : Nat} (hc : clsE E t = true) {x : Nat} (hx : x < N) (hb : t.testBit x = true) : ∀ {k y : Nat}, wlk E k x y = true → t.testBit y = true
  | 0, y, h => by
    have : (x : Int) = y := by unfold wlk at h; exact of_decide_eq_true h
    have : x = y := by omega
    subst this
    exact hb
  | k + 1, y, h => by
    obtain ⟨c, hc1, hwc⟩ := wlk_succ.1 h
    obtain ⟨c1, c2⟩ := wlk_rng hG (by omega) hwc
    obtain ⟨c', rfl⟩ : ∃ c' : Nat, c = c' := ⟨c.toNat, by omega⟩
    exact cls_iff.1 hc ((c' : Int), (y : Int)) hc1 (by have := cls_walk hG hc hx hb hwc; simpa using this)
theorem hulv_bit (hG : Gr N E) {i : Nat} (hi : i < N) {y : Nat} : (hulv N E i).testBit y = true ↔ ∃ k, wlk E k i y = true := by
  have hr : ∀ x ∈ [(i : Int)], 0 ≤ x ∧ x < (N : Int) := fun x hx => by rw [List.mem_singleton] at hx; omega
  unfold hulv
  rw [ofN_bit fun x hx => (rea_rng hx).1, decide_eq_true_eq, rea_mem hG hr]
  constructor
  · rintro ⟨x, hx, k, hk⟩
    rw [List.mem_singleton] at hx
    subst hx
    exact ⟨k, hk⟩
  · rintro ⟨k, hk⟩
    exact ⟨_, List.mem_singleton.2 rfl, k, hk⟩
theorem hulv_self (hG : Gr N E) {i : Nat} (hi : i < N) : (hulv N E i).testBit i = true := (hulv_bit hG hi).2 ⟨0, by unfold wlk; exact decide_eq_true rfl⟩
theorem hulv_rng (hG : Gr N E) {i : Nat} (hi : i < N) : ∀ v, (hulv N E i).testBit v = true → v < N := fun v hv => by
  obtain ⟨k, hk⟩ := (hulv_bit hG hi).1 hv
  have := wlk_rng hG (by omega) hk
  omega
theorem hulv_cls (hG : Gr N E) {i : Nat} (hi : i < N) : clsE E (hulv N E i) = true := cls_iff.2 fun e he h => by
  obtain ⟨r1, r2, r3, r4⟩ := hG.rng e he
  obtain ⟨k, hk⟩ := (hulv_bit hG hi).1 h
  rw [Int.toNat_of_nonneg r1] at hk
  exact (hulv_bit hG hi).2 ⟨k + 1, wlk_succ.2 ⟨e.1, by rw [Int.toNat_of_nonneg r3]; exact he, hk⟩⟩
theorem hulv_sub (hG : Gr N E) {t i : Nat} (hc : clsE E t = true) (hi : i < N) (hb : t.testBit i = true) : Sub (hulv N E i) t := fun v hv => by
  obtain ⟨k, hk⟩ := (hulv_bit hG hi).1 hv
  exact cls_walk hG hc hi hb hk
theorem mem_nodN {s v : Nat} : v ∈ nodN s ↔ v < 64 ∧ s.testBit v = true := by
  unfold nodN; rw [List.mem_filter, List.mem_range]
theorem cls_union (hG : Gr N E) {t : Nat} (hc : clsE E t = true) (hr : ∀ v, t.testBit v = true → v < N) : ((nodN t).map (hulv N E)).foldl (· ||| ·) 0 = t := by
  refine Sub.antisymm (fun v hv => ?_) (fun v hv => ?_)
  · obtain ⟨x, hx, hv⟩ := (orAll_bit _ v).1 hv
    obtain ⟨i, hi, rfl⟩ := List.mem_map.1 hx
    have := (mem_nodN.1 hi).2
    exact hulv_sub hG hc (hr i this) this v hv
  · have := hr v hv
    exact (orAll_bit _ v).2 ⟨hulv N E v, List.mem_map.2 ⟨v, mem_nodN.2 ⟨by have := hG.hN; omega, hv⟩, rfl⟩, hulv_self hG this⟩
/-- a closed set's closed parts are allowed with it -/
def Her (N : Nat) (allow : Nat → Bool) : Prop := ∀ t u, (∀ v, t.testBit v = true → v < N) → Sub u t → u ≠ 0 → allow t = true → allow u = true
theorem mem_bfs (hG : Gr N E) (hN : N ≤ 7) {allow : Nat → Bool} (ha : Her N allow) {t : Nat} : t ∈ bfsF allow (hulF N E) ↔ t ≠ 0 ∧ allow t = true ∧ clsE E t = true ∧ ∀ v, t.testBit v = true → v < N := by
  constructor
  · intro h
    exact bfs_un (P := fun t => clsE E t = true ∧ ∀ v, t.testBit v = true → v < N) ⟨cls_zero E, fun v hv => by rw [Nat.zero_testBit] at hv; cases hv⟩ (fun h hh x hx => by
      unfold hulF at hh
      obtain ⟨i, hi, rfl⟩ := List.mem_map.1 hh
      have hi' := List.mem_range.1 hi
      refine ⟨cls_or hx.1 (hulv_cls hG hi'), fun v hv => ?_⟩
      rw [Nat.testBit_or, Bool.or_eq_true] at hv
      exact hv.elim (hx.2 v) (hulv_rng hG hi' v)) 200 t h
  · rintro ⟨h0, h1, h2, h3⟩
    have hu := cls_union hG h2 h3
    have hp : ∀ k, Sub ((((nodN t).map (hulv N E)).take k).foldl (· ||| ·) 0) t := fun k v hv => by
      obtain ⟨x, hx, hv⟩ := (orAll_bit _ v).1 hv
      rw [← hu]
      exact (orAll_bit _ v).2 ⟨x, List.mem_of_mem_take hx, hv⟩
    have := bfs_has (allow := allow) (hul_lt hN) (L := (nodN t).map (hulv N E)) (fun x hx => by
      obtain ⟨i, hi, rfl⟩ := List.mem_map.1 hx
      exact List.mem_map.2 ⟨i, List.mem_range.2 (h3 i (mem_nodN.1 hi).2), rfl⟩) (fun k hk => ha t _ h3 (hp k) hk h1) ((nodN t).map (hulv N E)).length
    rw [List.take_of_length_le (Nat.le_refl _), hu] at this
    rcases List.mem_cons.1 this with h | h
    · exact absurd h h0
    · exact h
end
/-! ### the restrictions -/
theorem ones_nod : ∀ s : Fin 128, onesF s.1 = (nod s.1).length := by decide +kernel
theorem ones_len {s : Nat} (h : s < 128) : onesF s = (nod s).length := ones_nod ⟨s, h⟩
theorem bits_lt {t N : Nat} (h : ∀ v, t.testBit v = true → v < N) : t < 2 ^ N := Nat.lt_pow_two_of_testBit (n := N) _ fun v hv => by
  cases hb : t.testBit v with
  | false => rfl
  | true => have := h v hb; omega
theorem bits_lt128 {t N : Nat} (hN : N ≤ 7) (h : ∀ v, t.testBit v = true → v < N) : t < 128 := Nat.lt_of_lt_of_le (bits_lt h) (Nat.pow_le_pow_right (n := 2) (by decide) hN)
theorem sub_len {u t : Nat} (h : Sub u t) : (nod u).length ≤ (nod t).length := by
  unfold nod nodN
  rw [List.length_map, List.length_map, ← List.countP_eq_length_filter, ← List.countP_eq_length_filter]
  exact List.countP_mono_left fun v _ hv => h v hv
theorem allN_bit (N v : Nat) : (allN N).testBit v = decide (v < N) := by
  unfold allN
  rw [ofN_bit fun x hx => by obtain ⟨i, _, rfl⟩ := List.mem_map.1 hx; exact Int.natCast_nonneg _]
  rw [decide_eq_decide]
  constructor
  · intro h
    obtain ⟨i, hi, e⟩ := List.mem_map.1 h
    have := List.mem_range.1 hi
    omega
  · intro h
    exact List.mem_map.2 ⟨v, List.mem_range.2 h, rfl⟩
theorem allN_eq (N : Nat) : allN N = 2 ^ N - 1 := Nat.eq_of_testBit_eq fun v => by rw [allN_bit, Nat.testBit_two_pow_sub_one]
theorem alwF_her {N : Nat} (hN : N ≤ 7) (most without : Int) : Her N (alwF (allN N) most without) := by
  intro t u ht hs h0 ha
  have hu : ∀ v, u.testBit v = true → v < N := fun v hv => ht v (hs v hv)
  unfold alwF at *
  simp only [Bool.and_eq_true, Bool.or_eq_true, decide_eq_true_eq] at *
  obtain ⟨⟨h1, h2⟩, h3⟩ := ha
  refine ⟨⟨fun e => h1 ?_, ?_⟩, ?_⟩
  · have e' : u = allN N := by omega
    have : t = allN N := Sub.antisymm (fun v hv => by rw [allN_bit]; exact decide_eq_true (ht v hv)) (fun v hv => hs v (by rw [e']; exact hv))
    rw [this]
  · rcases h2 with h2 | h2
    · exact .inl h2
    · right
      rw [ones_len (bits_lt128 hN ht)] at h2
      rw [ones_len (bits_lt128 hN hu)]
      have := sub_len hs
      omega
  · rcases h3 with h3 | h3
    · exact .inl h3
    · right
      rw [tb0] at *
      cases hb : u.testBit without.toNat with
      | false => rfl
      | true => rw [hs _ hb] at h3; cases h3
theorem true_her (N : Nat) : Her N (fun _ => true) := fun _ _ _ _ _ _ => rfl
end Go.Proofs.YtbcjdjlihhlkaaaDoor
namespace Go.Dw
open Go Go.RowKit
theorem Sl.takeMax {α : Type} {R : Enc α} {sz : Nat} {h : Hp} {a : Option Addr} {n c : Nat} {L : List α} (hs : Sl R sz h a n c L) (k : Nat) (hk : k ≤ n) : Sl R sz h a k k (L.take k) := by
  have hl := hs.len
  refine ⟨by rw [List.length_take]; omega, Nat.le_refl _, fun i hi => ?_⟩
  rw [List.length_take] at hi
  obtain ⟨b, off, cs, h1, h2, h3, h4⟩ := hs.cells i (by omega)
  exact ⟨b, off, cs, h1, h2, by rw [List.getElem_take]; exact h3, h4⟩
end Go.Dw
namespace Go.Proofs.YtbcjdjlihhlkaaaDoor
open Go Go.RowKit Go.Dw
theorem Rds.mono {H K : Hp} {vs : List Value} {LL : List (List Int)} (h : Rds H vs LL) (l : H.le K) : Rds K vs LL :=
  ⟨h.len, fun i v L h1 h2 => encS_mono (encF_mono _) 1 _ _ _ _ l (h.get i v L h1 h2)⟩
theorem Rds.ins {H : Hp} {vs : List Value} {LL : List (List Int)} (h : Rds H vs LL) {v : Value} {L : List Int} (hv : encS (encF fI) 1 H L [v]) (k : Nat) (hk : k ≤ LL.length) : Rds H (vs.take k ++ v :: vs.drop k) (LL.take k ++ L :: LL.drop k) := by
  have hl := h.len
  refine ⟨by simp [hl], fun i u M g1 g2 => ?_⟩
  rw [List.getElem?_append] at g1 g2
  have l1 : (vs.take k).length = k := by rw [List.length_take]; omega
  have l2 : (LL.take k).length = k := by rw [List.length_take]; omega
  rw [l1] at g1
  rw [l2] at g2
  by_cases hi : i < k
  · rw [if_pos hi, List.getElem?_take_of_lt hi] at g1 g2
    exact h.get i u M g1 g2
  · rw [if_neg hi] at g1 g2
    cases hd : i - k with
    | zero =>
      rw [hd] at g1 g2
      cases g1; cases g2
      exact hv
    | succ m =>
      rw [hd, List.getElem?_cons_succ, List.getElem?_drop] at g1 g2
      exact h.get _ u M g1 g2
/-- does a list of nodes come before another one? -/
def befL (A B : List Int) : Bool := if A.length ≠ B.length then decide (A.length < B.length) else decide (cmpL A B < 0)
theorem modBefore_spec {a a' : Option Addr} {n c n' c' : Nat} {L L' : List Int} (w : World) (hL : Sl (encF fI) 1 (Hp.whole w) a n c L) (hL' : Sl (encF fI) 1 (Hp.whole w) a' n' c' L') (hn : n < 1000000000) :
    CallsE Tryd.prog 27 #[.slice a n c, .slice a' n' c'] w (RetV w (.bool (befL L L'))) := by
  have hlen := hL.len
  have hlen' := hL'.len
  refine enter (X := cx 40) (cxg _) (args := [.slice a n c, .slice a' n' c']) [.tmp 4] Tryd.func27 rfl rfl rfl rfl rfl ?_
  refine bsplitd (fun h => ?_) (fun h => ?_)
  · exact ⟨[], ⟨by unfold befL; rw [if_pos (by omega)]; congr 1; exact decide_eq_decide.2 (by omega), rfl⟩, fun w' h => h⟩
  have hll : L.length = L'.length := by omega
  have hb : befL L L' = decide (cmpL L L' < 0) := by unfold befL; rw [if_neg (by omega)]
  refine NeedL.mk Nat (fun k => [(0, .v (.slice a n c)), (1, .v (.slice a' n' c')), (5, .v (.int .i64 k))]) (fun _ => [.hp (Hp.whole w)])
    (fun k => k ≤ n ∧ L.take k = L'.take k) (fun k => n - k) 0 ⟨Nat.zero_le _, rfl⟩ (Ent.mk (fun _ _ h => h) rfl rfl) ?_
  rintro k ⟨hk, ht⟩
  refine bsplitd (fun hlt => ?_) (fun hge => ?_)
  · have h1 : k < L.length := by omega
    have h2 : k < L'.length := by omega
    refine NeedD.by_order (cxg _) (.take 0 <| .take 1 <| .take 2 <| .take 3 <| .take 4 <| .take 5 <| .take 6 <| .take 7 <| .take 8 <| .done) (by kernel_rfl) ?_
    refine idx (cxg _) (e := 3) rfl hL k rfl h1 (fun b o cs hcs hR hcell => ?_)
    subst hR
    refine ld1 (cxg _) (i := 0) rfl (hcell 0 _ rfl) rfl ?_
    refine idx (cxg _) (e := 3) rfl hL' k rfl h2 (fun b o cs hcs hR hcell => ?_)
    subst hR
    refine ld1 (cxg _) (i := 0) rfl (hcell 0 _ rfl) rfl ?_
    refine bsplitd (fun hne => ?_) (fun heq => ?_)
    · refine NeedD.by_order (cxg _) (.take 0 <| .take 1 <| .take 2 <| .take 3 <| .take 4 <| .take 5 <| .take 6 <| .take 7 <| .take 8 <| .take 9 <| .done) (by kernel_rfl) ?_
      refine idx (cxg _) (e := 3) rfl hL k rfl h1 (fun b o cs hcs hR hcell => ?_)
      subst hR
      refine ld1 (cxg _) (i := 0) rfl (hcell 0 _ rfl) rfl ?_
      refine idx (cxg _) (e := 3) rfl hL' k rfl h2 (fun b o cs hcs hR hcell => ?_)
      subst hR
      refine ld1 (cxg _) (i := 0) rfl (hcell 0 _ rfl) rfl ?_
      refine ⟨[], ⟨?_, rfl⟩, fun w' h => h⟩
      rw [hb, cmpL_skip L L' k ht (by omega) (by omega), List.drop_eq_getElem_cons h1, List.drop_eq_getElem_cons h2]
      congr 1
      rw [decide_eq_decide, cmpL_cons]
      constructor
      · exact fun h => .inl h
      · rintro (h | h)
        · exact h
        · exact absurd h.1 hne
    · refine nw (by omega) (by omega) ?_
      refine ⟨k + 1, ⟨by omega, ?_⟩, by omega, Ent.mk (fun _ _ h => h) rfl rfl⟩
      rw [List.take_succ_eq_append_getElem h1, List.take_succ_eq_append_getElem h2, ht, Decidable.not_not.1 heq]
  · rw [List.take_of_length_le (by omega), List.take_of_length_le (by omega)] at ht
    exact ⟨[], ⟨by rw [hb, ht, cmpL_self]; rfl, rfl⟩, fun w' h => h⟩
/-! ### candidates -/
def posI (l : List Int) (LL : List (List Int)) : Nat → Nat
  | 0 => 0
  | k + 1 => if befL l (LL.getD k []) then posI l LL k else k + 1
theorem posI_le (l : List Int) (LL : List (List Int)) : ∀ k, posI l LL k ≤ k
  | 0 => Nat.le_refl _
  | k + 1 => by unfold posI; split
                · exact Nat.le_succ_of_le (posI_le l LL k)
                · exact Nat.le_refl _
def insI (l : List Int) (LL : List (List Int)) : List (List Int) := LL.take (posI l LL LL.length) ++ l :: LL.drop (posI l LL LL.length)
theorem insI_len (l : List Int) (LL : List (List Int)) : (insI l LL).length = LL.length + 1 := by
  unfold insI
  have := posI_le l LL LL.length
  simp only [List.length_append, List.length_cons, List.length_take, List.length_drop]
  omega
/-- is a set a restricted candidate (but for 0 and all)? -/
def canP (E : List (Int × Int)) (most without : Int) (s : Nat) : Bool := clsE E s && !(decide (most > 0) && decide (((nod s).length : Int) > most)) && !(decide (without ≥ 0) && decide (((s >>> without.toNat &&& 1 : Nat) : Int) = 1))
def candK (E : List (Int × Int)) (most without : Int) : Nat → List (List Int)
  | 0 => []
  | k + 1 => if canP E most without (k + 1) then insI (nod (k + 1)) (candK E most without k) else candK E most without k
theorem candK_len (E : List (Int × Int)) (most without : Int) : ∀ k, (candK E most without k).length ≤ k
  | 0 => Nat.le_refl _
  | k + 1 => by
    have := candK_len E most without k
    unfold candK; split
    · rw [insI_len]; omega
    · omega
theorem candK_row (E : List (Int × Int)) (most without : Int) : ∀ k, ∀ x ∈ candK E most without k, x.length ≤ 64
  | 0, x, h => by cases h
  | k + 1, x, h => by
    unfold candK at h
    split at h
    · unfold insI at h
      rcases List.mem_append.1 h with h | h
      · exact candK_row E most without k x (List.mem_of_mem_take h)
      · rcases List.mem_cons.1 h with h | h
        · rw [h]; exact nod_len _
        · exact candK_row E most without k x (List.mem_of_mem_drop h)
    · exact candK_row E most without k x h
def candF (N : Nat) (E : List (Int × Int)) (most without : Int) : List (List Int) := candK E most without (2 ^ N - 2)
set_option maxRecDepth 10000 in
theorem modCand_spec {a : Option Addr} {n c : Nat} {E : List (Int × Int)} (N : Nat) (hN : N ≤ 7) (most without : Int) (hw : without < 63) (w : World) (hL : Sl (encF fE) 2 (Hp.whole w) a n c E) (hG : Gr N E) :
    CallsE Tryd.prog 11 #[gv N a n c, .int .i64 most, .int .i64 without] w (Ret w fun v cs => ∃ a' n' c' h, v = .slice a' n' c' ∧ cs = [.hp h] ∧ Sl (encS (encF fI) 1) 1 h a' n' c' (candF N E most without)) := by
  have hp : 2 ^ N ≤ 128 := Nat.pow_le_pow_right (n := 2) (by decide) hN
  have hp0 : 0 < 2 ^ N := Nat.two_pow_pos N
  obtain ⟨P, hP⟩ : ∃ P, P = 2 ^ N := ⟨_, rfl⟩
  refine enter (X := cx 73) (cxg _) (args := [.agg #[.int .i64 N, .slice a n c], .int .i64 most, .int .i64 without]) [.tmp 6] Tryd.func11 rfl rfl rfl rfl rfl ?_
  intro b3
  refine NeedL.mkS (Nat × Dw.Os × List Value × Hp) (fun g => [(1, .v (.int .i64 most)), (2, .v (.int .i64 without)), (3, .bx 1 0), (7, .v g.2.1.v), (8, .v (.int .i64 (g.1 + 1 : Nat)))]) (fun g => [.hp (Hp.whole w), .box b3 [.int .i64 N, .slice a n c] 28, .hp g.2.2.2, .hp g.2.1.h])
    (fun g => g.1 ≤ P - 2 ∧ OwnO fV 35 1 g.2.1 g.2.2.1 ∧ Rds g.2.2.2 g.2.2.1 (candK E most without g.1)) (fun g => P - g.1) (0, Os.nil, [], Hp.emp)
    ⟨Nat.zero_le _, OwnO.nil _ _ _, Rds.nil _⟩ (Ent.mk (fun _ _ h => h.emp.emp) rfl rfl) ?_
  rintro ⟨s, o, vs, H⟩ ⟨hs, ho, hrd⟩ hsat
  dsimp only at *
  have hrl := hrd.len
  have hcl := candK_len E most without s
  have hol := ho.len
  refine qShlI N rfl rfl (by omega) ?_
  rw [← hP]
  refine nw (by omega) (by omega) ?_
  refine bsplitd (fun hlt => ?_) (fun hge => ?_)
  · have hs1 : s + 1 < 9223372036854775808 := by omega
    have sO := OwnO.sl (f := fV) (fun _ => rfl) (by decide) ho
    have st : candK E most without (s + 1) = if canP E most without (s + 1) then insI (nod (s + 1)) (candK E most without s) else candK E most without s := rfl
    obtain ⟨T, hT⟩ : ∃ T, T = s + 1 := ⟨_, rfl⟩
    have hTc : ((s + 1 : Nat) : Int) = T := by rw [hT]
    rw [← hT] at st hs1
    rw [← hT]
    obtain ⟨LL, hLL⟩ : ∃ LL, LL = candK E most without s := ⟨_, rfl⟩
    rw [← hLL] at st hrd hrl hcl
    have hrow : ∀ x ∈ LL, x.length ≤ 64 := by rw [hLL]; exact candK_row E most without s
    refine callS (fun w' _ => modNodes_spec T hs1 w') ?_
    rintro _ _ ⟨oL, rfl, rfl, hoL⟩ hsat2
    have sL := OwnO.sl (f := fI) (fun _ => rfl) (by decide) hoL
    have nl := sL.len
    obtain ⟨l, hl⟩ : ∃ l, l = nod T := ⟨_, rfl⟩
    rw [← hl] at hoL sL nl st
    have hl64 : l.length ≤ 64 := by rw [hl]; exact nod_len T
    have hcan : canP E most without T = (clsE E T && !(decide (most > 0) && decide ((l.length : Int) > most)) && !(decide (without ≥ 0) && decide (((T >>> without.toNat &&& 1 : Nat) : Int) = 1))) := by rw [hl]; rfl
    obtain ⟨cl, hclE⟩ : ∃ x, x = clsE E T := ⟨_, rfl⟩
    rw [← hclE] at hcan
    have hjH : H.dj oL.h := hsat2.dj 2 4 rfl rfl (by decide)
    refine hideQ (fun _ h => h _ _ ?_)
    refine normS [.hp (Hp.whole w), .box b3 [.int .i64 N, .slice a n c] 28, .hp H, .hp o.h, .hp oL.h] rfl ?_
    refine hideQ (fun q' hq' => ?_)
    have kC := fun (w' : World) (h : Sl (encF fE) 2 (Hp.whole w') a n c E) => modClosed_spec N w' h hG (by omega) T hs1
    rw [← hclE] at kC
    refine callV _ (fun w' hm => kC w' (hL.mono (encF_mono _) (hm 0 _ rfl))) ?_
    refine bsplit (fun hc => ?_) (fun hc => ?_)
    · refine hq' _ _ ?_
      rw [show cl = false by simpa using hc] at hcan
      rw [show canP E most without T = false from hcan, if_neg (by decide)] at st
      refine nw (by omega) (by omega) ?_
      exact ⟨(T, o, vs, H), ⟨by dsimp only; omega, ho, by dsimp only; rw [st]; exact hrd⟩, by dsimp only; omega, Ent.mk (fun _ _ h => h.pick [0, 1, 2, 3] rfl rfl) rfl rfl⟩
    have hc1 : cl = true := by simpa using hc
    rw [hc1, Bool.true_and] at hcan
    refine bsplitd (fun hm0 => ?_) (fun hm0 => ?_)
    · rw [decide_eq_true hm0, Bool.true_and] at hcan
      refine bsplitd (fun hm1 => ?_) (fun hm1 => ?_)
      · refine hq' _ _ ?_
        rw [decide_eq_true (by omega)] at hcan
        rw [show canP E most without T = false from hcan, if_neg (by decide)] at st
        refine nw (by omega) (by omega) ?_
        exact ⟨(T, o, vs, H), ⟨by dsimp only; omega, ho, by dsimp only; rw [st]; exact hrd⟩, by dsimp only; omega, Ent.mk (fun _ _ h => h.pick [0, 1, 2, 3] rfl rfl) rfl rfl⟩
      · rw [decide_eq_false (by omega)] at hcan
        refine bsplitd (fun hw0 => ?_) (fun hw0 => ?_)
        · rw [decide_eq_true hw0, Bool.true_and] at hcan
          refine qShrI T without.toNat rfl (by omega) (by omega) ?_
          refine qAndI (T >>> without.toNat) 1 rfl rfl (by have := shr_le T without.toNat; omega) (by decide) ?_
          refine hq' _ _ ?_
          refine bsplitd (fun hw1 => ?_) (fun hw1 => ?_)
          · rw [decide_eq_true hw1] at hcan
            rw [show canP E most without T = false from hcan, if_neg (by decide)] at st
            refine nw (by omega) (by omega) ?_
            exact ⟨(T, o, vs, H), ⟨by dsimp only; omega, ho, by dsimp only; rw [st]; exact hrd⟩, by dsimp only; omega, Ent.mk (fun _ _ h => h.pick [0, 1, 2, 3] rfl rfl) rfl rfl⟩
          · rw [decide_eq_false hw1] at hcan
            rw [show canP E most without T = true from hcan, if_pos rfl] at st
            refine NeedL.mk Nat (fun j => [(1, .v (.int .i64 most)), (2, .v (.int .i64 without)), (3, .bx 1 0), (7, .v o.v), (8, .v (.int .i64 T)), (9, .v oL.v), (10, .v (.int .i64 j))]) (fun _ => [.hp (Hp.whole w), .box b3 [.int .i64 N, .slice a n c] 28, .hp H, .hp o.h, .hp oL.h])
              (fun j => j ≤ LL.length ∧ posI l LL LL.length = posI l LL j) (fun j => j) LL.length ⟨Nat.le_refl _, rfl⟩ (Ent.mk (fun _ _ h => h) (by rw [show o.n = LL.length by omega]; rfl) rfl) ?_
            rintro j ⟨hj, hpos⟩
            have fin : posI l LL j = j → (insI l LL = LL.take j ++ l :: LL.drop j) := fun h => by unfold insI; rw [hpos, h]
            refine normS [.hp (Hp.whole w), .box b3 [.int .i64 N, .slice a n c] 28, .hp H, .hp o.h, .hp oL.h] rfl ?_
            refine hideQ (fun q' hq' => ?_)
            refine bsplitd (fun hj0 => ?_) (fun hj0 => ?_)
            · obtain ⟨i, rfl⟩ : ∃ i, j = i + 1 := ⟨j - 1, by omega⟩
              have hi : i < LL.length := by omega
              have hiv : i < vs.length := by omega
              obtain ⟨a2, n2, c2, hv2, hs2⟩ := hrd.get i _ _ (List.getElem?_eq_getElem hiv) (List.getElem?_eq_getElem hi)
              have hv3 : vs[i] = .slice a2 n2 c2 := by simpa using hv2
              have hgd : LL.getD i [] = LL[i] := by rw [List.getD_eq_getElem?_getD, List.getElem?_eq_getElem hi]; rfl
              have hps : posI l LL (i + 1) = if befL l LL[i] then posI l LL i else i + 1 := by rw [← hgd]; rfl
              obtain ⟨bb, hbb⟩ : ∃ x, x = befL l LL[i] := ⟨_, rfl⟩
              rw [← hbb] at hps
              have kB := fun (w' : World) (h : Sl (encF fI) 1 (Hp.whole w') oL.a oL.n oL.c l) (h2 : Sl (encF fI) 1 (Hp.whole w') a2 n2 c2 LL[i]) => modBefore_spec w' h h2 (by omega)
              rw [← hbb] at kB
              refine nw (by omega) (by omega) ?_
              refine idx (cxg _) (e := 35) rfl sO i (by omega) hiv (fun b9 o9 cs hcs hR hcell => ?_)
              refine ld1 (cxg _) (i := 3) rfl (hcell 0 (.slice a2 n2 c2) (by rw [show cs = [vs[i]] from hR, hv3]; rfl)) rfl ?_
              refine callV _ (fun w' hm => kB w' (sL.mono (encF_mono _) (hm 4 _ rfl)) (hs2.mono (encF_mono _) (hm 2 _ rfl))) ?_
              refine hq' _ _ ?_
              refine bsplit (fun hb1 => ?_) (fun hb1 => ?_)
              · rw [hb1, if_pos rfl] at hps
                refine nw (by omega) (by omega) ?_
                exact ⟨i, ⟨by omega, by rw [hpos, hps]⟩, by omega, Ent.mk (fun _ _ h => h) (by rw [show ((i + 1 : Nat) : Int) - 1 = i by omega]; rfl) rfl⟩
              · rw [hb1, if_neg (by decide)] at hps
                have hins := fin hps
                obtain ⟨J, hJ⟩ : ∃ J, J = i + 1 := ⟨_, rfl⟩
                rw [← hJ] at hins hj
                rw [← hJ]
                rw [hins] at st
                have hrow1 : encS (encF fI) 1 (H.join oL.h) l [oL.v] := ⟨_, _, _, rfl, sL.mono (encF_mono _) (Hp.le_join_r hjH)⟩
                have hrd' := (hrd.mono (Hp.le_join_l H oL.h)).ins hrow1 J hj
                rw [← st] at hrd'
                refine NeedD.by_order (cxg _) (.take 0 <| .take 1 <| .take 2 <| .take 3 <| .take 4 <| .take 6 <| .take 7 <| .take 8 <| .run 5 <| .run 9 <| .run 10 <| .run 11 <| .done) (by kernel_rfl) ?_
                refine slMax (cxg _) (e := 35) rfl J rfl rfl (by have := sO.cap; omega) ?_
                refine slS (cxg _) (e := 35) rfl sO J o.n (.inr ⟨_, _, rfl, rfl⟩) (.inl ⟨rfl, rfl⟩) (by omega) (Nat.le_refl _) fun a7 hs7 => ?_
                rw [List.take_of_length_le (by omega)] at hs7
                intro b66
                refine ⟨(by repeat first | exact trivial | refine ⟨.inl rfl, ?_⟩ | refine ⟨.inr rfl, ?_⟩), ?_⟩
                refine appB (f := fV) (cxg _) (e := 35) rfl (fun _ => rfl) (i := 5) rfl (L := [oL.v]) rfl rfl (k := 3) rfl hs7 rfl (by rw [List.length_drop]; simp; omega) (fun he => ?_) (fun he o7 ho7 _ => ?_)
                · refine ⟨(by repeat first | exact trivial | refine ⟨.inl rfl, ?_⟩ | refine ⟨.inr rfl, ?_⟩), ?_⟩
                  refine appF (f := fV) (cxg _) (e := 35) rfl (fun _ => rfl) (fun w' hm => (sO.takeMax J (by omega)).mono (encF_mono _) (hm 3 _ rfl)) (fun w' hm => Sl.box (f := fV) (fun _ => rfl) (by decide) (hm 5 _ rfl) [oL.v] rfl rfl (by simp)) (by simp) rfl (by rw [List.length_take]; simp; omega) (fun o8 ho8 => ⟨(by repeat first | exact trivial | refine ⟨.inl rfl, ?_⟩ | refine ⟨.inr rfl, ?_⟩), ?_⟩)
                  refine nw (by omega) (by omega) ?_
                  exact ⟨(T, o8, vs.take J ++ oL.v :: [], H.join oL.h), ⟨by dsimp only; omega, ho8, by dsimp only; rw [← he]; exact hrd'⟩, by dsimp only; omega, Ent.mk (fun _ _ h => Ok.pick [0, 2, 1, 3] rfl rfl (Ok.join (c := .hp (Hp.whole w)) (Ok.pick [0, 2, 4, 1, 6] rfl rfl h))) rfl rfl⟩
                · refine ⟨(by repeat first | exact trivial | refine ⟨.inl rfl, ?_⟩ | refine ⟨.inr rfl, ?_⟩), ?_⟩
                  have s7 := OwnO.sl (f := fV) (fun _ => rfl) (by decide) ho7
                  refine appF (f := fV) (cxg _) (e := 35) rfl (fun _ => rfl) (fun w' hm => (sO.takeMax J (by omega)).mono (encF_mono _) (hm 3 _ rfl)) (fun w' hm => s7.mono (encF_mono _) (hm 6 _ rfl)) (by simp) rfl (by rw [List.length_take]; simp; omega) (fun o8 ho8 => ⟨(by repeat first | exact trivial | refine ⟨.inl rfl, ?_⟩ | refine ⟨.inr rfl, ?_⟩), ?_⟩)
                  refine nw (by omega) (by omega) ?_
                  exact ⟨(T, o8, vs.take J ++ oL.v :: vs.drop J, H.join oL.h), ⟨by dsimp only; omega, ho8, by dsimp only; exact hrd'⟩, by dsimp only; omega, Ent.mk (fun _ _ h => Ok.pick [0, 2, 1, 3] rfl rfl (Ok.join (c := .hp (Hp.whole w)) (Ok.pick [0, 2, 4, 1, 7] rfl rfl h))) rfl rfl⟩
            · refine hq' _ _ ?_
              have hins := fin (by rw [show j = 0 by omega]; rfl)
              obtain ⟨J, hJ⟩ : ∃ J, J = j := ⟨_, rfl⟩
              rw [← hJ] at hins hj
              rw [← hJ]
              rw [hins] at st
              have hrow1 : encS (encF fI) 1 (H.join oL.h) l [oL.v] := ⟨_, _, _, rfl, sL.mono (encF_mono _) (Hp.le_join_r hjH)⟩
              have hrd' := (hrd.mono (Hp.le_join_l H oL.h)).ins hrow1 J hj
              rw [← st] at hrd'
              refine NeedD.by_order (cxg _) (.take 0 <| .take 1 <| .take 2 <| .take 3 <| .take 4 <| .take 6 <| .take 7 <| .take 8 <| .run 5 <| .run 9 <| .run 10 <| .run 11 <| .done) (by kernel_rfl) ?_
              refine slMax (cxg _) (e := 35) rfl J rfl rfl (by have := sO.cap; omega) ?_
              refine slS (cxg _) (e := 35) rfl sO J o.n (.inr ⟨_, _, rfl, rfl⟩) (.inl ⟨rfl, rfl⟩) (by omega) (Nat.le_refl _) fun a7 hs7 => ?_
              rw [List.take_of_length_le (by omega)] at hs7
              intro b66
              refine ⟨(by repeat first | exact trivial | refine ⟨.inl rfl, ?_⟩ | refine ⟨.inr rfl, ?_⟩), ?_⟩
              refine appB (f := fV) (cxg _) (e := 35) rfl (fun _ => rfl) (i := 5) rfl (L := [oL.v]) rfl rfl (k := 3) rfl hs7 rfl (by rw [List.length_drop]; simp; omega) (fun he => ?_) (fun he o7 ho7 _ => ?_)
              · refine ⟨(by repeat first | exact trivial | refine ⟨.inl rfl, ?_⟩ | refine ⟨.inr rfl, ?_⟩), ?_⟩
                refine appF (f := fV) (cxg _) (e := 35) rfl (fun _ => rfl) (fun w' hm => (sO.takeMax J (by omega)).mono (encF_mono _) (hm 3 _ rfl)) (fun w' hm => Sl.box (f := fV) (fun _ => rfl) (by decide) (hm 5 _ rfl) [oL.v] rfl rfl (by simp)) (by simp) rfl (by rw [List.length_take]; simp; omega) (fun o8 ho8 => ⟨(by repeat first | exact trivial | refine ⟨.inl rfl, ?_⟩ | refine ⟨.inr rfl, ?_⟩), ?_⟩)
                refine nw (by omega) (by omega) ?_
                exact ⟨(T, o8, vs.take J ++ oL.v :: [], H.join oL.h), ⟨by dsimp only; omega, ho8, by dsimp only; rw [← he]; exact hrd'⟩, by dsimp only; omega, Ent.mk (fun _ _ h => Ok.pick [0, 2, 1, 3] rfl rfl (Ok.join (c := .hp (Hp.whole w)) (Ok.pick [0, 2, 4, 1, 6] rfl rfl h))) rfl rfl⟩
              · refine ⟨(by repeat first | exact trivial | refine ⟨.inl rfl, ?_⟩ | refine ⟨.inr rfl, ?_⟩), ?_⟩
                have s7 := OwnO.sl (f := fV) (fun _ => rfl) (by decide) ho7
                refine appF (f := fV) (cxg _) (e := 35) rfl (fun _ => rfl) (fun w' hm => (sO.takeMax J (by omega)).mono (encF_mono _) (hm 3 _ rfl)) (fun w' hm => s7.mono (encF_mono _) (hm 6 _ rfl)) (by simp) rfl (by rw [List.length_take]; simp; omega) (fun o8 ho8 => ⟨(by repeat first | exact trivial | refine ⟨.inl rfl, ?_⟩ | refine ⟨.inr rfl, ?_⟩), ?_⟩)
                refine nw (by omega) (by omega) ?_
                exact ⟨(T, o8, vs.take J ++ oL.v :: vs.drop J, H.join oL.h), ⟨by dsimp only; omega, ho8, by dsimp only; exact hrd'⟩, by dsimp only; omega, Ent.mk (fun _ _ h => Ok.pick [0, 2, 1, 3] rfl rfl (Ok.join (c := .hp (Hp.whole w)) (Ok.pick [0, 2, 4, 1, 7] rfl rfl h))) rfl rfl⟩
        · refine hq' _ _ ?_
          rw [decide_eq_false hw0] at hcan
          rw [show canP E most without T = true from hcan, if_pos rfl] at st
          refine NeedL.mk Nat (fun j => [(1, .v (.int .i64 most)), (2, .v (.int .i64 without)), (3, .bx 1 0), (7, .v o.v), (8, .v (.int .i64 T)), (9, .v oL.v), (10, .v (.int .i64 j))]) (fun _ => [.hp (Hp.whole w), .box b3 [.int .i64 N, .slice a n c] 28, .hp H, .hp o.h, .hp oL.h])
            (fun j => j ≤ LL.length ∧ posI l LL LL.length = posI l LL j) (fun j => j) LL.length ⟨Nat.le_refl _, rfl⟩ (Ent.mk (fun _ _ h => h) (by rw [show o.n = LL.length by omega]; rfl) rfl) ?_
          rintro j ⟨hj, hpos⟩
          have fin : posI l LL j = j → (insI l LL = LL.take j ++ l :: LL.drop j) := fun h => by unfold insI; rw [hpos, h]
          refine normS [.hp (Hp.whole w), .box b3 [.int .i64 N, .slice a n c] 28, .hp H, .hp o.h, .hp oL.h] rfl ?_
          refine hideQ (fun q' hq' => ?_)
          refine bsplitd (fun hj0 => ?_) (fun hj0 => ?_)
          · obtain ⟨i, rfl⟩ : ∃ i, j = i + 1 := ⟨j - 1, by omega⟩
            have hi : i < LL.length := by omega
            have hiv : i < vs.length := by omega
            obtain ⟨a2, n2, c2, hv2, hs2⟩ := hrd.get i _ _ (List.getElem?_eq_getElem hiv) (List.getElem?_eq_getElem hi)
            have hv3 : vs[i] = .slice a2 n2 c2 := by simpa using hv2
            have hgd : LL.getD i [] = LL[i] := by rw [List.getD_eq_getElem?_getD, List.getElem?_eq_getElem hi]; rfl
            have hps : posI l LL (i + 1) = if befL l LL[i] then posI l LL i else i + 1 := by rw [← hgd]; rfl
            obtain ⟨bb, hbb⟩ : ∃ x, x = befL l LL[i] := ⟨_, rfl⟩
            rw [← hbb] at hps
            have kB := fun (w' : World) (h : Sl (encF fI) 1 (Hp.whole w') oL.a oL.n oL.c l) (h2 : Sl (encF fI) 1 (Hp.whole w') a2 n2 c2 LL[i]) => modBefore_spec w' h h2 (by omega)
            rw [← hbb] at kB
            refine nw (by omega) (by omega) ?_
            refine idx (cxg _) (e := 35) rfl sO i (by omega) hiv (fun b9 o9 cs hcs hR hcell => ?_)
            refine ld1 (cxg _) (i := 3) rfl (hcell 0 (.slice a2 n2 c2) (by rw [show cs = [vs[i]] from hR, hv3]; rfl)) rfl ?_
            refine callV _ (fun w' hm => kB w' (sL.mono (encF_mono _) (hm 4 _ rfl)) (hs2.mono (encF_mono _) (hm 2 _ rfl))) ?_
            refine hq' _ _ ?_
            refine bsplit (fun hb1 => ?_) (fun hb1 => ?_)
            · rw [hb1, if_pos rfl] at hps
              refine nw (by omega) (by omega) ?_
              exact ⟨i, ⟨by omega, by rw [hpos, hps]⟩, by omega, Ent.mk (fun _ _ h => h) (by rw [show ((i + 1 : Nat) : Int) - 1 = i by omega]; rfl) rfl⟩
            · rw [hb1, if_neg (by decide)] at hps
              have hins := fin hps
              obtain ⟨J, hJ⟩ : ∃ J, J = i + 1 := ⟨_, rfl⟩
              rw [← hJ] at hins hj
              rw [← hJ]
              rw [hins] at st
              have hrow1 : encS (encF fI) 1 (H.join oL.h) l [oL.v] := ⟨_, _, _, rfl, sL.mono (encF_mono _) (Hp.le_join_r hjH)⟩
              have hrd' := (hrd.mono (Hp.le_join_l H oL.h)).ins hrow1 J hj
              rw [← st] at hrd'
              refine NeedD.by_order (cxg _) (.take 0 <| .take 1 <| .take 2 <| .take 3 <| .take 4 <| .take 6 <| .take 7 <| .take 8 <| .run 5 <| .run 9 <| .run 10 <| .run 11 <| .done) (by kernel_rfl) ?_
              refine slMax (cxg _) (e := 35) rfl J rfl rfl (by have := sO.cap; omega) ?_
              refine slS (cxg _) (e := 35) rfl sO J o.n (.inr ⟨_, _, rfl, rfl⟩) (.inl ⟨rfl, rfl⟩) (by omega) (Nat.le_refl _) fun a7 hs7 => ?_
              rw [List.take_of_length_le (by omega)] at hs7
              intro b66
              refine ⟨(by repeat first | exact trivial | refine ⟨.inl rfl, ?_⟩ | refine ⟨.inr rfl, ?_⟩), ?_⟩
              refine appB (f := fV) (cxg _) (e := 35) rfl (fun _ => rfl) (i := 5) rfl (L := [oL.v]) rfl rfl (k := 3) rfl hs7 rfl (by rw [List.length_drop]; simp; omega) (fun he => ?_) (fun he o7 ho7 _ => ?_)
              · refine ⟨(by repeat first | exact trivial | refine ⟨.inl rfl, ?_⟩ | refine ⟨.inr rfl, ?_⟩), ?_⟩
                refine appF (f := fV) (cxg _) (e := 35) rfl (fun _ => rfl) (fun w' hm => (sO.takeMax J (by omega)).mono (encF_mono _) (hm 3 _ rfl)) (fun w' hm => Sl.box (f := fV) (fun _ => rfl) (by decide) (hm 5 _ rfl) [oL.v] rfl rfl (by simp)) (by simp) rfl (by rw [List.length_take]; simp; omega) (fun o8 ho8 => ⟨(by repeat first | exact trivial | refine ⟨.inl rfl, ?_⟩ | refine ⟨.inr rfl, ?_⟩), ?_⟩)
                refine nw (by omega) (by omega) ?_
                exact ⟨(T, o8, vs.take J ++ oL.v :: [], H.join oL.h), ⟨by dsimp only; omega, ho8, by dsimp only; rw [← he]; exact hrd'⟩, by dsimp only; omega, Ent.mk (fun _ _ h => Ok.pick [0, 2, 1, 3] rfl rfl (Ok.join (c := .hp (Hp.whole w)) (Ok.pick [0, 2, 4, 1, 6] rfl rfl h))) rfl rfl⟩
              · refine ⟨(by repeat first | exact trivial | refine ⟨.inl rfl, ?_⟩ | refine ⟨.inr rfl, ?_⟩), ?_⟩
                have s7 := OwnO.sl (f := fV) (fun _ => rfl) (by decide) ho7
                refine appF (f := fV) (cxg _) (e := 35) rfl (fun _ => rfl) (fun w' hm => (sO.takeMax J (by omega)).mono (encF_mono _) (hm 3 _ rfl)) (fun w' hm => s7.mono (encF_mono _) (hm 6 _ rfl)) (by simp) rfl (by rw [List.length_take]; simp; omega) (fun o8 ho8 => ⟨(by repeat first | exact trivial | refine ⟨.inl rfl, ?_⟩ | refine ⟨.inr rfl, ?_⟩), ?_⟩)
                refine nw (by omega) (by omega) ?_
                exact ⟨(T, o8, vs.take J ++ oL.v :: vs.drop J, H.join oL.h), ⟨by dsimp only; omega, ho8, by dsimp only; exact hrd'⟩, by dsimp only; omega, Ent.mk (fun _ _ h => Ok.pick [0, 2, 1, 3] rfl rfl (Ok.join (c := .hp (Hp.whole w)) (Ok.pick [0, 2, 4, 1, 7] rfl rfl h))) rfl rfl⟩
          · refine hq' _ _ ?_
            have hins := fin (by rw [show j = 0 by omega]; rfl)
            obtain ⟨J, hJ⟩ : ∃ J, J = j := ⟨_, rfl⟩
            rw [← hJ] at hins hj
            rw [← hJ]
            rw [hins] at st
            have hrow1 : encS (encF fI) 1 (H.join oL.h) l [oL.v] := ⟨_, _, _, rfl, sL.mono (encF_mono _) (Hp.le_join_r hjH)⟩
            have hrd' := (hrd.mono (Hp.le_join_l H oL.h)).ins hrow1 J hj
            rw [← st] at hrd'
            refine NeedD.by_order (cxg _) (.take 0 <| .take 1 <| .take 2 <| .take 3 <| .take 4 <| .take 6 <| .take 7 <| .take 8 <| .run 5 <| .run 9 <| .run 10 <| .run 11 <| .done) (by kernel_rfl) ?_
            refine slMax (cxg _) (e := 35) rfl J rfl rfl (by have := sO.cap; omega) ?_
            refine slS (cxg _) (e := 35) rfl sO J o.n (.inr ⟨_, _, rfl, rfl⟩) (.inl ⟨rfl, rfl⟩) (by omega) (Nat.le_refl _) fun a7 hs7 => ?_
            rw [List.take_of_length_le (by omega)] at hs7
            intro b66
            refine ⟨(by repeat first | exact trivial | refine ⟨.inl rfl, ?_⟩ | refine ⟨.inr rfl, ?_⟩), ?_⟩
            refine appB (f := fV) (cxg _) (e := 35) rfl (fun _ => rfl) (i := 5) rfl (L := [oL.v]) rfl rfl (k := 3) rfl hs7 rfl (by rw [List.length_drop]; simp; omega) (fun he => ?_) (fun he o7 ho7 _ => ?_)
            · refine ⟨(by repeat first | exact trivial | refine ⟨.inl rfl, ?_⟩ | refine ⟨.inr rfl, ?_⟩), ?_⟩
              refine appF (f := fV) (cxg _) (e := 35) rfl (fun _ => rfl) (fun w' hm => (sO.takeMax J (by omega)).mono (encF_mono _) (hm 3 _ rfl)) (fun w' hm => Sl.box (f := fV) (fun _ => rfl) (by decide) (hm 5 _ rfl) [oL.v] rfl rfl (by simp)) (by simp) rfl (by rw [List.length_take]; simp; omega) (fun o8 ho8 => ⟨(by repeat first | exact trivial | refine ⟨.inl rfl, ?_⟩ | refine ⟨.inr rfl, ?_⟩), ?_⟩)
              refine nw (by omega) (by omega) ?_
              exact ⟨(T, o8, vs.take J ++ oL.v :: [], H.join oL.h), ⟨by dsimp only; omega, ho8, by dsimp only; rw [← he]; exact hrd'⟩, by dsimp only; omega, Ent.mk (fun _ _ h => Ok.pick [0, 2, 1, 3] rfl rfl (Ok.join (c := .hp (Hp.whole w)) (Ok.pick [0, 2, 4, 1, 6] rfl rfl h))) rfl rfl⟩
            · refine ⟨(by repeat first | exact trivial | refine ⟨.inl rfl, ?_⟩ | refine ⟨.inr rfl, ?_⟩), ?_⟩
              have s7 := OwnO.sl (f := fV) (fun _ => rfl) (by decide) ho7
              refine appF (f := fV) (cxg _) (e := 35) rfl (fun _ => rfl) (fun w' hm => (sO.takeMax J (by omega)).mono (encF_mono _) (hm 3 _ rfl)) (fun w' hm => s7.mono (encF_mono _) (hm 6 _ rfl)) (by simp) rfl (by rw [List.length_take]; simp; omega) (fun o8 ho8 => ⟨(by repeat first | exact trivial | refine ⟨.inl rfl, ?_⟩ | refine ⟨.inr rfl, ?_⟩), ?_⟩)
              refine nw (by omega) (by omega) ?_
              exact ⟨(T, o8, vs.take J ++ oL.v :: vs.drop J, H.join oL.h), ⟨by dsimp only; omega, ho8, by dsimp only; exact hrd'⟩, by dsimp only; omega, Ent.mk (fun _ _ h => Ok.pick [0, 2, 1, 3] rfl rfl (Ok.join (c := .hp (Hp.whole w)) (Ok.pick [0, 2, 4, 1, 7] rfl rfl h))) rfl rfl⟩
    · rw [decide_eq_false hm0] at hcan
      refine bsplitd (fun hw0 => ?_) (fun hw0 => ?_)
      · rw [decide_eq_true hw0, Bool.true_and] at hcan
        refine qShrI T without.toNat rfl (by omega) (by omega) ?_
        refine qAndI (T >>> without.toNat) 1 rfl rfl (by have := shr_le T without.toNat; omega) (by decide) ?_
        refine hq' _ _ ?_
        refine bsplitd (fun hw1 => ?_) (fun hw1 => ?_)
        · rw [decide_eq_true hw1] at hcan
          rw [show canP E most without T = false from hcan, if_neg (by decide)] at st
          refine nw (by omega) (by omega) ?_
          exact ⟨(T, o, vs, H), ⟨by dsimp only; omega, ho, by dsimp only; rw [st]; exact hrd⟩, by dsimp only; omega, Ent.mk (fun _ _ h => h.pick [0, 1, 2, 3] rfl rfl) rfl rfl⟩
        · rw [decide_eq_false hw1] at hcan
          rw [show canP E most without T = true from hcan, if_pos rfl] at st
          refine NeedL.mk Nat (fun j => [(1, .v (.int .i64 most)), (2, .v (.int .i64 without)), (3, .bx 1 0), (7, .v o.v), (8, .v (.int .i64 T)), (9, .v oL.v), (10, .v (.int .i64 j))]) (fun _ => [.hp (Hp.whole w), .box b3 [.int .i64 N, .slice a n c] 28, .hp H, .hp o.h, .hp oL.h])
            (fun j => j ≤ LL.length ∧ posI l LL LL.length = posI l LL j) (fun j => j) LL.length ⟨Nat.le_refl _, rfl⟩ (Ent.mk (fun _ _ h => h) (by rw [show o.n = LL.length by omega]; rfl) rfl) ?_
          rintro j ⟨hj, hpos⟩
          have fin : posI l LL j = j → (insI l LL = LL.take j ++ l :: LL.drop j) := fun h => by unfold insI; rw [hpos, h]
          refine normS [.hp (Hp.whole w), .box b3 [.int .i64 N, .slice a n c] 28, .hp H, .hp o.h, .hp oL.h] rfl ?_
          refine hideQ (fun q' hq' => ?_)
          refine bsplitd (fun hj0 => ?_) (fun hj0 => ?_)
          · obtain ⟨i, rfl⟩ : ∃ i, j = i + 1 := ⟨j - 1, by omega⟩
            have hi : i < LL.length := by omega
            have hiv : i < vs.length := by omega
            obtain ⟨a2, n2, c2, hv2, hs2⟩ := hrd.get i _ _ (List.getElem?_eq_getElem hiv) (List.getElem?_eq_getElem hi)
            have hv3 : vs[i] = .slice a2 n2 c2 := by simpa using hv2
            have hgd : LL.getD i [] = LL[i] := by rw [List.getD_eq_getElem?_getD, List.getElem?_eq_getElem hi]; rfl
            have hps : posI l LL (i + 1) = if befL l LL[i] then posI l LL i else i + 1 := by rw [← hgd]; rfl
            obtain ⟨bb, hbb⟩ : ∃ x, x = befL l LL[i] := ⟨_, rfl⟩
            rw [← hbb] at hps
            have kB := fun (w' : World) (h : Sl (encF fI) 1 (Hp.whole w') oL.a oL.n oL.c l) (h2 : Sl (encF fI) 1 (Hp.whole w') a2 n2 c2 LL[i]) => modBefore_spec w' h h2 (by omega)
            rw [← hbb] at kB
            refine nw (by omega) (by omega) ?_
            refine idx (cxg _) (e := 35) rfl sO i (by omega) hiv (fun b9 o9 cs hcs hR hcell => ?_)
            refine ld1 (cxg _) (i := 3) rfl (hcell 0 (.slice a2 n2 c2) (by rw [show cs = [vs[i]] from hR, hv3]; rfl)) rfl ?_
            refine callV _ (fun w' hm => kB w' (sL.mono (encF_mono _) (hm 4 _ rfl)) (hs2.mono (encF_mono _) (hm 2 _ rfl))) ?_
            refine hq' _ _ ?_
            refine bsplit (fun hb1 => ?_) (fun hb1 => ?_)
            · rw [hb1, if_pos rfl] at hps
              refine nw (by omega) (by omega) ?_
              exact ⟨i, ⟨by omega, by rw [hpos, hps]⟩, by omega, Ent.mk (fun _ _ h => h) (by rw [show ((i + 1 : Nat) : Int) - 1 = i by omega]; rfl) rfl⟩
            · rw [hb1, if_neg (by decide)] at hps
              have hins := fin hps
              obtain ⟨J, hJ⟩ : ∃ J, J = i + 1 := ⟨_, rfl⟩
              rw [← hJ] at hins hj
              rw [← hJ]
              rw [hins] at st
              have hrow1 : encS (encF fI) 1 (H.join oL.h) l [oL.v] := ⟨_, _, _, rfl, sL.mono (encF_mono _) (Hp.le_join_r hjH)⟩
              have hrd' := (hrd.mono (Hp.le_join_l H oL.h)).ins hrow1 J hj
              rw [← st] at hrd'
              refine NeedD.by_order (cxg _) (.take 0 <| .take 1 <| .take 2 <| .take 3 <| .take 4 <| .take 6 <| .take 7 <| .take 8 <| .run 5 <| .run 9 <| .run 10 <| .run 11 <| .done) (by kernel_rfl) ?_
              refine slMax (cxg _) (e := 35) rfl J rfl rfl (by have := sO.cap; omega) ?_
              refine slS (cxg _) (e := 35) rfl sO J o.n (.inr ⟨_, _, rfl, rfl⟩) (.inl ⟨rfl, rfl⟩) (by omega) (Nat.le_refl _) fun a7 hs7 => ?_
              rw [List.take_of_length_le (by omega)] at hs7
              intro b66
              refine ⟨(by repeat first | exact trivial | refine ⟨.inl rfl, ?_⟩ | refine ⟨.inr rfl, ?_⟩), ?_⟩
              refine appB (f := fV) (cxg _) (e := 35) rfl (fun _ => rfl) (i := 5) rfl (L := [oL.v]) rfl rfl (k := 3) rfl hs7 rfl (by rw [List.length_drop]; simp; omega) (fun he => ?_) (fun he o7 ho7 _ => ?_)
              · refine ⟨(by repeat first | exact trivial | refine ⟨.inl rfl, ?_⟩ | refine ⟨.inr rfl, ?_⟩), ?_⟩
                refine appF (f := fV) (cxg _) (e := 35) rfl (fun _ => rfl) (fun w' hm => (sO.takeMax J (by omega)).mono (encF_mono _) (hm 3 _ rfl)) (fun w' hm => Sl.box (f := fV) (fun _ => rfl) (by decide) (hm 5 _ rfl) [oL.v] rfl rfl (by simp)) (by simp) rfl (by rw [List.length_take]; simp; omega) (fun o8 ho8 => ⟨(by repeat first | exact trivial | refine ⟨.inl rfl, ?_⟩ | refine ⟨.inr rfl, ?_⟩), ?_⟩)
                refine nw (by omega) (by omega) ?_
                exact ⟨(T, o8, vs.take J ++ oL.v :: [], H.join oL.h), ⟨by dsimp only; omega, ho8, by dsimp only; rw [← he]; exact hrd'⟩, by dsimp only; omega, Ent.mk (fun _ _ h => Ok.pick [0, 2, 1, 3] rfl rfl (Ok.join (c := .hp (Hp.whole w)) (Ok.pick [0, 2, 4, 1, 6] rfl rfl h))) rfl rfl⟩
              · refine ⟨(by repeat first | exact trivial | refine ⟨.inl rfl, ?_⟩ | refine ⟨.inr rfl, ?_⟩), ?_⟩
                have s7 := OwnO.sl (f := fV) (fun _ => rfl) (by decide) ho7
                refine appF (f := fV) (cxg _) (e := 35) rfl (fun _ => rfl) (fun w' hm => (sO.takeMax J (by omega)).mono (encF_mono _) (hm 3 _ rfl)) (fun w' hm => s7.mono (encF_mono _) (hm 6 _ rfl)) (by simp) rfl (by rw [List.length_take]; simp; omega) (fun o8 ho8 => ⟨(by repeat first | exact trivial | refine ⟨.inl rfl, ?_⟩ | refine ⟨.inr rfl, ?_⟩), ?_⟩)
                refine nw (by omega) (by omega) ?_
                exact ⟨(T, o8, vs.take J ++ oL.v :: vs.drop J, H.join oL.h), ⟨by dsimp only; omega, ho8, by dsimp only; exact hrd'⟩, by dsimp only; omega, Ent.mk (fun _ _ h => Ok.pick [0, 2, 1, 3] rfl rfl (Ok.join (c := .hp (Hp.whole w)) (Ok.pick [0, 2, 4, 1, 7] rfl rfl h))) rfl rfl⟩
          · refine hq' _ _ ?_
            have hins := fin (by rw [show j = 0 by omega]; rfl)
            obtain ⟨J, hJ⟩ : ∃ J, J = j := ⟨_, rfl⟩
            rw [← hJ] at hins hj
            rw [← hJ]
            rw [hins] at st
            have hrow1 : encS (encF fI) 1 (H.join oL.h) l [oL.v] := ⟨_, _, _, rfl, sL.mono (encF_mono _) (Hp.le_join_r hjH)⟩
            have hrd' := (hrd.mono (Hp.le_join_l H oL.h)).ins hrow1 J hj
            rw [← st] at hrd'
            refine NeedD.by_order (cxg _) (.take 0 <| .take 1 <| .take 2 <| .take 3 <| .take 4 <| .take 6 <| .take 7 <| .take 8 <| .run 5 <| .run 9 <| .run 10 <| .run 11 <| .done) (by kernel_rfl) ?_
            refine slMax (cxg _) (e := 35) rfl J rfl rfl (by have := sO.cap; omega) ?_
            refine slS (cxg _) (e := 35) rfl sO J o.n (.inr ⟨_, _, rfl, rfl⟩) (.inl ⟨rfl, rfl⟩) (by omega) (Nat.le_refl _) fun a7 hs7 => ?_
            rw [List.take_of_length_le (by omega)] at hs7
            intro b66
            refine ⟨(by repeat first | exact trivial | refine ⟨.inl rfl, ?_⟩ | refine ⟨.inr rfl, ?_⟩), ?_⟩
            refine appB (f := fV) (cxg _) (e := 35) rfl (fun _ => rfl) (i := 5) rfl (L := [oL.v]) rfl rfl (k := 3) rfl hs7 rfl (by rw [List.length_drop]; simp; omega) (fun he => ?_) (fun he o7 ho7 _ => ?_)
            · refine ⟨(by repeat first | exact trivial | refine ⟨.inl rfl, ?_⟩ | refine ⟨.inr rfl, ?_⟩), ?_⟩
              refine appF (f := fV) (cxg _) (e := 35) rfl (fun _ => rfl) (fun w' hm => (sO.takeMax J (by omega)).mono (encF_mono _) (hm 3 _ rfl)) (fun w' hm => Sl.box (f := fV) (fun _ => rfl) (by decide) (hm 5 _ rfl) [oL.v] rfl rfl (by simp)) (by simp) rfl (by rw [List.length_take]; simp; omega) (fun o8 ho8 => ⟨(by repeat first | exact trivial | refine ⟨.inl rfl, ?_⟩ | refine ⟨.inr rfl, ?_⟩), ?_⟩)
              refine nw (by omega) (by omega) ?_
              exact ⟨(T, o8, vs.take J ++ oL.v :: [], H.join oL.h), ⟨by dsimp only; omega, ho8, by dsimp only; rw [← he]; exact hrd'⟩, by dsimp only; omega, Ent.mk (fun _ _ h => Ok.pick [0, 2, 1, 3] rfl rfl (Ok.join (c := .hp (Hp.whole w)) (Ok.pick [0, 2, 4, 1, 6] rfl rfl h))) rfl rfl⟩
            · refine ⟨(by repeat first | exact trivial | refine ⟨.inl rfl, ?_⟩ | refine ⟨.inr rfl, ?_⟩), ?_⟩
              have s7 := OwnO.sl (f := fV) (fun _ => rfl) (by decide) ho7
              refine appF (f := fV) (cxg _) (e := 35) rfl (fun _ => rfl) (fun w' hm => (sO.takeMax J (by omega)).mono (encF_mono _) (hm 3 _ rfl)) (fun w' hm => s7.mono (encF_mono _) (hm 6 _ rfl)) (by simp) rfl (by rw [List.length_take]; simp; omega) (fun o8 ho8 => ⟨(by repeat first | exact trivial | refine ⟨.inl rfl, ?_⟩ | refine ⟨.inr rfl, ?_⟩), ?_⟩)
              refine nw (by omega) (by omega) ?_
              exact ⟨(T, o8, vs.take J ++ oL.v :: vs.drop J, H.join oL.h), ⟨by dsimp only; omega, ho8, by dsimp only; exact hrd'⟩, by dsimp only; omega, Ent.mk (fun _ _ h => Ok.pick [0, 2, 1, 3] rfl rfl (Ok.join (c := .hp (Hp.whole w)) (Ok.pick [0, 2, 4, 1, 7] rfl rfl h))) rfl rfl⟩
      · refine hq' _ _ ?_
        rw [decide_eq_false hw0] at hcan
        rw [show canP E most without T = true from hcan, if_pos rfl] at st
        refine NeedL.mk Nat (fun j => [(1, .v (.int .i64 most)), (2, .v (.int .i64 without)), (3, .bx 1 0), (7, .v o.v), (8, .v (.int .i64 T)), (9, .v oL.v), (10, .v (.int .i64 j))]) (fun _ => [.hp (Hp.whole w), .box b3 [.int .i64 N, .slice a n c] 28, .hp H, .hp o.h, .hp oL.h])
          (fun j => j ≤ LL.length ∧ posI l LL LL.length = posI l LL j) (fun j => j) LL.length ⟨Nat.le_refl _, rfl⟩ (Ent.mk (fun _ _ h => h) (by rw [show o.n = LL.length by omega]; rfl) rfl) ?_
        rintro j ⟨hj, hpos⟩
        have fin : posI l LL j = j → (insI l LL = LL.take j ++ l :: LL.drop j) := fun h => by unfold insI; rw [hpos, h]
        refine normS [.hp (Hp.whole w), .box b3 [.int .i64 N, .slice a n c] 28, .hp H, .hp o.h, .hp oL.h] rfl ?_
        refine hideQ (fun q' hq' => ?_)
        refine bsplitd (fun hj0 => ?_) (fun hj0 => ?_)
        · obtain ⟨i, rfl⟩ : ∃ i, j = i + 1 := ⟨j - 1, by omega⟩
          have hi : i < LL.length := by omega
          have hiv : i < vs.length := by omega
          obtain ⟨a2, n2, c2, hv2, hs2⟩ := hrd.get i _ _ (List.getElem?_eq_getElem hiv) (List.getElem?_eq_getElem hi)
          have hv3 : vs[i] = .slice a2 n2 c2 := by simpa using hv2
          have hgd : LL.getD i [] = LL[i] := by rw [List.getD_eq_getElem?_getD, List.getElem?_eq_getElem hi]; rfl
          have hps : posI l LL (i + 1) = if befL l LL[i] then posI l LL i else i + 1 := by rw [← hgd]; rfl
          obtain ⟨bb, hbb⟩ : ∃ x, x = befL l LL[i] := ⟨_, rfl⟩
          rw [← hbb] at hps
          have kB := fun (w' : World) (h : Sl (encF fI) 1 (Hp.whole w') oL.a oL.n oL.c l) (h2 : Sl (encF fI) 1 (Hp.whole w') a2 n2 c2 LL[i]) => modBefore_spec w' h h2 (by omega)
          rw [← hbb] at kB
          refine nw (by omega) (by omega) ?_
          refine idx (cxg _) (e := 35) rfl sO i (by omega) hiv (fun b9 o9 cs hcs hR hcell => ?_)
          refine ld1 (cxg _) (i := 3) rfl (hcell 0 (.slice a2 n2 c2) (by rw [show cs = [vs[i]] from hR, hv3]; rfl)) rfl ?_
          refine callV _ (fun w' hm => kB w' (sL.mono (encF_mono _) (hm 4 _ rfl)) (hs2.mono (encF_mono _) (hm 2 _ rfl))) ?_
          refine hq' _ _ ?_
          refine bsplit (fun hb1 => ?_) (fun hb1 => ?_)
          · rw [hb1, if_pos rfl] at hps
            refine nw (by omega) (by omega) ?_
            exact ⟨i, ⟨by omega, by rw [hpos, hps]⟩, by omega, Ent.mk (fun _ _ h => h) (by rw [show ((i + 1 : Nat) : Int) - 1 = i by omega]; rfl) rfl⟩
          · rw [hb1, if_neg (by decide)] at hps
            have hins := fin hps
            obtain ⟨J, hJ⟩ : ∃ J, J = i + 1 := ⟨_, rfl⟩
            rw [← hJ] at hins hj
            rw [← hJ]
            rw [hins] at st
            have hrow1 : encS (encF fI) 1 (H.join oL.h) l [oL.v] := ⟨_, _, _, rfl, sL.mono (encF_mono _) (Hp.le_join_r hjH)⟩
            have hrd' := (hrd.mono (Hp.le_join_l H oL.h)).ins hrow1 J hj
            rw [← st] at hrd'
            refine NeedD.by_order (cxg _) (.take 0 <| .take 1 <| .take 2 <| .take 3 <| .take 4 <| .take 6 <| .take 7 <| .take 8 <| .run 5 <| .run 9 <| .run 10 <| .run 11 <| .done) (by kernel_rfl) ?_
            refine slMax (cxg _) (e := 35) rfl J rfl rfl (by have := sO.cap; omega) ?_
            refine slS (cxg _) (e := 35) rfl sO J o.n (.inr ⟨_, _, rfl, rfl⟩) (.inl ⟨rfl, rfl⟩) (by omega) (Nat.le_refl _) fun a7 hs7 => ?_
            rw [List.take_of_length_le (by omega)] at hs7
            intro b66
            refine ⟨(by repeat first | exact trivial | refine ⟨.inl rfl, ?_⟩ | refine ⟨.inr rfl, ?_⟩), ?_⟩
            refine appB (f := fV) (cxg _) (e := 35) rfl (fun _ => rfl) (i := 5) rfl (L := [oL.v]) rfl rfl (k := 3) rfl hs7 rfl (by rw [List.length_drop]; simp; omega) (fun he => ?_) (fun he o7 ho7 _ => ?_)
            · refine ⟨(by repeat first | exact trivial | refine ⟨.inl rfl, ?_⟩ | refine ⟨.inr rfl, ?_⟩), ?_⟩
              refine appF (f := fV) (cxg _) (e := 35) rfl (fun _ => rfl) (fun w' hm => (sO.takeMax J (by omega)).mono (encF_mono _) (hm 3 _ rfl)) (fun w' hm => Sl.box (f := fV) (fun _ => rfl) (by decide) (hm 5 _ rfl) [oL.v] rfl rfl (by simp)) (by simp) rfl (by rw [List.length_take]; simp; omega) (fun o8 ho8 => ⟨(by repeat first | exact trivial | refine ⟨.inl rfl, ?_⟩ | refine ⟨.inr rfl, ?_⟩), ?_⟩)
              refine nw (by omega) (by omega) ?_
              exact ⟨(T, o8, vs.take J ++ oL.v :: [], H.join oL.h), ⟨by dsimp only; omega, ho8, by dsimp only; rw [← he]; exact hrd'⟩, by dsimp only; omega, Ent.mk (fun _ _ h => Ok.pick [0, 2, 1, 3] rfl rfl (Ok.join (c := .hp (Hp.whole w)) (Ok.pick [0, 2, 4, 1, 6] rfl rfl h))) rfl rfl⟩
            · refine ⟨(by repeat first | exact trivial | refine ⟨.inl rfl, ?_⟩ | refine ⟨.inr rfl, ?_⟩), ?_⟩
              have s7 := OwnO.sl (f := fV) (fun _ => rfl) (by decide) ho7
              refine appF (f := fV) (cxg _) (e := 35) rfl (fun _ => rfl) (fun w' hm => (sO.takeMax J (by omega)).mono (encF_mono _) (hm 3 _ rfl)) (fun w' hm => s7.mono (encF_mono _) (hm 6 _ rfl)) (by simp) rfl (by rw [List.length_take]; simp; omega) (fun o8 ho8 => ⟨(by repeat first | exact trivial | refine ⟨.inl rfl, ?_⟩ | refine ⟨.inr rfl, ?_⟩), ?_⟩)
              refine nw (by omega) (by omega) ?_
              exact ⟨(T, o8, vs.take J ++ oL.v :: vs.drop J, H.join oL.h), ⟨by dsimp only; omega, ho8, by dsimp only; exact hrd'⟩, by dsimp only; omega, Ent.mk (fun _ _ h => Ok.pick [0, 2, 1, 3] rfl rfl (Ok.join (c := .hp (Hp.whole w)) (Ok.pick [0, 2, 4, 1, 7] rfl rfl h))) rfl rfl⟩
        · refine hq' _ _ ?_
          have hins := fin (by rw [show j = 0 by omega]; rfl)
          obtain ⟨J, hJ⟩ : ∃ J, J = j := ⟨_, rfl⟩
          rw [← hJ] at hins hj
          rw [← hJ]
          rw [hins] at st
          have hrow1 : encS (encF fI) 1 (H.join oL.h) l [oL.v] := ⟨_, _, _, rfl, sL.mono (encF_mono _) (Hp.le_join_r hjH)⟩
          have hrd' := (hrd.mono (Hp.le_join_l H oL.h)).ins hrow1 J hj
          rw [← st] at hrd'
          refine NeedD.by_order (cxg _) (.take 0 <| .take 1 <| .take 2 <| .take 3 <| .take 4 <| .take 6 <| .take 7 <| .take 8 <| .run 5 <| .run 9 <| .run 10 <| .run 11 <| .done) (by kernel_rfl) ?_
          refine slMax (cxg _) (e := 35) rfl J rfl rfl (by have := sO.cap; omega) ?_
          refine slS (cxg _) (e := 35) rfl sO J o.n (.inr ⟨_, _, rfl, rfl⟩) (.inl ⟨rfl, rfl⟩) (by omega) (Nat.le_refl _) fun a7 hs7 => ?_
          rw [List.take_of_length_le (by omega)] at hs7
          intro b66
          refine ⟨(by repeat first | exact trivial | refine ⟨.inl rfl, ?_⟩ | refine ⟨.inr rfl, ?_⟩), ?_⟩
          refine appB (f := fV) (cxg _) (e := 35) rfl (fun _ => rfl) (i := 5) rfl (L := [oL.v]) rfl rfl (k := 3) rfl hs7 rfl (by rw [List.length_drop]; simp; omega) (fun he => ?_) (fun he o7 ho7 _ => ?_)
          · refine ⟨(by repeat first | exact trivial | refine ⟨.inl rfl, ?_⟩ | refine ⟨.inr rfl, ?_⟩), ?_⟩
            refine appF (f := fV) (cxg _) (e := 35) rfl (fun _ => rfl) (fun w' hm => (sO.takeMax J (by omega)).mono (encF_mono _) (hm 3 _ rfl)) (fun w' hm => Sl.box (f := fV) (fun _ => rfl) (by decide) (hm 5 _ rfl) [oL.v] rfl rfl (by simp)) (by simp) rfl (by rw [List.length_take]; simp; omega) (fun o8 ho8 => ⟨(by repeat first | exact trivial | refine ⟨.inl rfl, ?_⟩ | refine ⟨.inr rfl, ?_⟩), ?_⟩)
            refine nw (by omega) (by omega) ?_
            exact ⟨(T, o8, vs.take J ++ oL.v :: [], H.join oL.h), ⟨by dsimp only; omega, ho8, by dsimp only; rw [← he]; exact hrd'⟩, by dsimp only; omega, Ent.mk (fun _ _ h => Ok.pick [0, 2, 1, 3] rfl rfl (Ok.join (c := .hp (Hp.whole w)) (Ok.pick [0, 2, 4, 1, 6] rfl rfl h))) rfl rfl⟩
          · refine ⟨(by repeat first | exact trivial | refine ⟨.inl rfl, ?_⟩ | refine ⟨.inr rfl, ?_⟩), ?_⟩
            have s7 := OwnO.sl (f := fV) (fun _ => rfl) (by decide) ho7
            refine appF (f := fV) (cxg _) (e := 35) rfl (fun _ => rfl) (fun w' hm => (sO.takeMax J (by omega)).mono (encF_mono _) (hm 3 _ rfl)) (fun w' hm => s7.mono (encF_mono _) (hm 6 _ rfl)) (by simp) rfl (by rw [List.length_take]; simp; omega) (fun o8 ho8 => ⟨(by repeat first | exact trivial | refine ⟨.inl rfl, ?_⟩ | refine ⟨.inr rfl, ?_⟩), ?_⟩)
            refine nw (by omega) (by omega) ?_
            exact ⟨(T, o8, vs.take J ++ oL.v :: vs.drop J, H.join oL.h), ⟨by dsimp only; omega, ho8, by dsimp only; exact hrd'⟩, by dsimp only; omega, Ent.mk (fun _ _ h => Ok.pick [0, 2, 1, 3] rfl rfl (Ok.join (c := .hp (Hp.whole w)) (Ok.pick [0, 2, 4, 1, 7] rfl rfl h))) rfl rfl⟩
  · rw [show s = P - 2 by omega] at hrd
    have hh := hrd.sl ho (hsat.dj 3 2 rfl rfl (by decide))
    exact ⟨[.hp (o.h.join H)], ⟨o.a, o.n, o.c, _, rfl, rfl, by unfold candF; rw [← hP]; exact hh⟩, fun w' h => Ok.join (c := .hp (Hp.whole w)) (d := .hp o.h) (e := .hp H) (s := []) (h.pick [0, 3, 2] rfl rfl)⟩
end Go.Proofs.YtbcjdjlihhlkaaaDoor
namespace Go.Proofs.YtbcjdjlihhlkaaaDoor
open Go Go.RowKit Go.Dw
theorem befL_irr (A : List Int) : befL A A = false := by unfold befL; rw [if_neg (by simp), cmpL_self]; rfl
theorem befL_iff {A B : List Int} : befL A B = true ↔ A.length < B.length ∨ (A.length = B.length ∧ cmpL A B < 0) := by
  unfold befL
  split
  · rename_i h
    rw [decide_eq_true_eq]
    exact ⟨fun h => .inl h, fun h' => h'.elim id fun h' => absurd h'.1 h⟩
  · rename_i h
    rw [decide_eq_true_eq]
    exact ⟨fun h' => .inr ⟨Decidable.not_not.1 h, h'⟩, fun h' => h'.elim (fun h' => absurd (Nat.ne_of_lt h') h) (·.2)⟩
theorem befL_trans {A B C : List Int} (h : befL A B = true) (k : befL B C = true) : befL A C = true := by
  rw [befL_iff] at *
  rcases h with h | h <;> rcases k with k | k
  · exact .inl (by omega)
  · exact .inl (by omega)
  · exact .inl (by omega)
  · exact .inr ⟨by omega, cmpL_trans h.2 k.2⟩
theorem befL_tri {A B : List Int} (h : ¬ befL A B = true) (hne : A ≠ B) : befL B A = true := by
  rw [befL_iff] at *
  rcases Nat.lt_trichotomy A.length B.length with hl | hl | hl
  · exact absurd (.inl hl) h
  · refine .inr ⟨hl.symm, ?_⟩
    rcases Classical.em (cmpL B A < 0) with h1 | h1
    · exact h1
    · exact absurd (cmpL_tri (fun h2 => h (.inr ⟨hl, h2⟩)) h1) hne
  · exact .inl hl
theorem posI_spec (l : List Int) (LL : List (List Int)) : ∀ k, (∀ j, posI l LL k ≤ j → j < k → befL l (LL.getD j []) = true) ∧ (posI l LL k = 0 ∨ befL l (LL.getD (posI l LL k - 1) []) = false)
  | 0 => ⟨fun j _ h => by omega, .inl rfl⟩
  | k + 1 => by
    have ih := posI_spec l LL k
    unfold posI
    split
    · rename_i hb
      refine ⟨fun j h1 h2 => ?_, ih.2⟩
      by_cases h : j = k
      · rw [h]; exact hb
      · exact ih.1 j h1 (by omega)
    · rename_i hb
      exact ⟨fun j h1 h2 => by omega, .inr (by simpa using hb)⟩
theorem insI_pw {l : List Int} {LL : List (List Int)} (h : LL.Pairwise fun A B => befL A B = true) (hn : l ∉ LL) : (insI l LL).Pairwise fun A B => befL A B = true := by
  obtain ⟨s1, s2⟩ := posI_spec l LL LL.length
  have hle := posI_le l LL LL.length
  unfold insI
  generalize posI l LL LL.length = p at *
  have hpw := h
  rw [← List.take_append_drop p LL, List.pairwise_append] at hpw
  obtain ⟨q1, q2, q3⟩ := hpw
  have hd : ∀ x ∈ LL.drop p, befL l x = true := fun x hx => by
    obtain ⟨i, hi, rfl⟩ := List.getElem_of_mem hx
    rw [List.length_drop] at hi
    rw [List.getElem_drop]
    have := s1 (p + i) (by omega) (by omega)
    rw [List.getD_eq_getElem?_getD, List.getElem?_eq_getElem (by omega)] at this
    exact this
  refine List.pairwise_append.2 ⟨q1, List.pairwise_cons.2 ⟨hd, q2⟩, fun A hA B hB => ?_⟩
  rcases List.mem_cons.1 hB with rfl | hB
  · have hp : p ≠ 0 := fun e => by rw [e] at hA; cases hA
    have hb := s2.resolve_left hp
    have hp1 : p - 1 < LL.length := by omega
    rw [List.getD_eq_getElem?_getD, List.getElem?_eq_getElem hp1] at hb
    have hlast : befL LL[p - 1] B = true := befL_tri (by rw [show befL B LL[p - 1] = false from hb]; decide) fun e => hn (by rw [e]; exact List.getElem_mem hp1)
    obtain ⟨i, hi, rfl⟩ := List.getElem_of_mem hA
    rw [List.length_take] at hi
    rw [List.getElem_take]
    by_cases he : i = p - 1
    · subst he; exact hlast
    · exact befL_trans (List.pairwise_iff_getElem.1 h i (p - 1) (by omega) hp1 (by omega)) hlast
  · exact q3 A hA B hB
theorem insI_mem {l x : List Int} {LL : List (List Int)} : x ∈ insI l LL ↔ x = l ∨ x ∈ LL := by
  unfold insI
  generalize posI l LL LL.length = p
  conv => rhs; rw [← List.take_append_drop p LL]
  simp only [List.mem_append, List.mem_cons]
  constructor
  · rintro (h | h | h)
    · exact .inr (.inl h)
    · exact .inl h
    · exact .inr (.inr h)
  · rintro (h | h | h)
    · exact .inr (.inl h)
    · exact .inl h
    · exact .inr (.inr h)
theorem mem_nod {s v : Nat} : (v : Int) ∈ nod s ↔ v < 64 ∧ s.testBit v = true := by
  unfold nod
  rw [List.mem_map]
  constructor
  · rintro ⟨i, hi, e⟩
    have : i = v := by omega
    subst this
    exact mem_nodN.1 hi
  · intro h; exact ⟨v, mem_nodN.2 h, rfl⟩
theorem candK_mem {E : List (Int × Int)} {most without : Int} : ∀ {k : Nat} {x : List Int}, x ∈ candK E most without k ↔ ∃ s, 1 ≤ s ∧ s ≤ k ∧ canP E most without s = true ∧ x = nod s
  | 0, x => by
    constructor
    · intro h; cases h
    · rintro ⟨s, h1, h2, _⟩; omega
  | k + 1, x => by
    have ih := candK_mem (E := E) (most := most) (without := without) (k := k) (x := x)
    unfold candK
    split
    · rename_i hc
      rw [insI_mem, ih]
      constructor
      · rintro (h | ⟨s, h1, h2, h3, h4⟩)
        · exact ⟨k + 1, by omega, Nat.le_refl _, hc, h⟩
        · exact ⟨s, h1, by omega, h3, h4⟩
      · rintro ⟨s, h1, h2, h3, h4⟩
        by_cases e : s = k + 1
        · subst e; exact .inl h4
        · exact .inr ⟨s, h1, by omega, h3, h4⟩
    · rename_i hc
      rw [ih]
      constructor
      · rintro ⟨s, h1, h2, h3, h4⟩; exact ⟨s, h1, by omega, h3, h4⟩
      · rintro ⟨s, h1, h2, h3, h4⟩
        by_cases e : s = k + 1
        · subst e; exact absurd h3 hc
        · exact ⟨s, h1, by omega, h3, h4⟩
theorem candK_pw (E : List (Int × Int)) (most without : Int) : ∀ k, k < 1000 → (candK E most without k).Pairwise fun A B => befL A B = true
  | 0, _ => List.Pairwise.nil
  | k + 1, hk => by
    have ih := candK_pw E most without k (by omega)
    unfold candK
    split
    · refine insI_pw ih fun h => ?_
      obtain ⟨s, h1, h2, _, h4⟩ := candK_mem.1 h
      have := nod_inj (by omega) (by omega) h4
      omega
    · exact ih
theorem cmpS_bef {a b : Nat} (ha : a < 128) (hb : b < 128) : cmpS a b < 0 ↔ befL (nod a) (nod b) = true := by
  rw [befL_iff, cmpS_lt, ones_len ha, ones_len hb]
theorem srtS_pw {L : List Nat} (h : ∀ t ∈ L, t < 128) (hn : L.Nodup) : (srtS L h).Pairwise fun a b => cmpS a b < 0 := by
  have hDn : (toS L h).Nodup := by
    refine List.Pairwise.of_map (S := fun a b : Nat => a ≠ b) (f := fun x : S128 => x.1) (fun a b hab e => hab (congrArg _ e)) ?_
    rw [toS_val]; exact hn
  unfold srtS
  refine List.pairwise_map.2 ((srt_pw hDn).imp fun {x y} h => ?_)
  unfold ltS ltOf cfS at h
  exact of_decide_eq_true h
theorem srtS_mem {L : List Nat} (h : ∀ t ∈ L, t < 128) {t : Nat} : t ∈ srtS L h ↔ t ∈ L := by
  unfold srtS srtL
  rw [((List.mergeSort_perm (toS L h) _).map (·.1)).mem_iff, toS_val]
theorem bits_iff {t N : Nat} : (∀ v, t.testBit v = true → v < N) ↔ t < 2 ^ N := by
  constructor
  · exact bits_lt
  · intro h v hv
    rcases Nat.lt_or_ge v N with h1 | h1
    · exact h1
    · rw [Nat.testBit_lt_two_pow (Nat.lt_of_lt_of_le h (Nat.pow_le_pow_right (by decide) h1))] at hv; cases hv
section
variable {N : Nat} {E : List (Int × Int)}
theorem can_iff (hG : Gr N E) (hN : N ≤ 7) {most without : Int} (hm : 0 ≤ most) {t : Nat} :
    t ∈ bfsF (alwF (allN N) most without) (hulF N E) ↔ 1 ≤ t ∧ t ≤ 2 ^ N - 2 ∧ canP E most without t = true := by
  have hp := Nat.two_pow_pos N
  rw [mem_bfs hG hN (alwF_her hN most without), bits_iff]
  unfold alwF canP
  rw [allN_eq]
  simp only [Bool.and_eq_true, Bool.or_eq_true, decide_eq_true_eq, Bool.not_eq_true', Bool.and_eq_false_iff, decide_eq_false_iff_not]
  constructor
  · rintro ⟨h0, ⟨⟨h1, h2⟩, h3⟩, h4, h5⟩
    have h128 := Nat.lt_of_lt_of_le h5 (Nat.pow_le_pow_right (n := 2) (by decide) hN)
    rw [ones_len h128] at h2
    refine ⟨by omega, by omega, ⟨h4, ?_⟩, ?_⟩
    · rcases h2 with h2 | h2
      · exact .inl (by omega)
      · exact .inr (by omega)
    · rcases h3 with h3 | h3
      · exact .inl (by omega)
      · exact .inr (by omega)
  · rintro ⟨h0, h1, ⟨h4, h2⟩, h3⟩
    have h5 : t < 2 ^ N := by omega
    have h128 := Nat.lt_of_lt_of_le h5 (Nat.pow_le_pow_right (n := 2) (by decide) hN)
    rw [ones_len h128]
    refine ⟨by omega, ⟨⟨by omega, ?_⟩, ?_⟩, h4, h5⟩
    · rcases h2 with h2 | h2
      · exact .inl (by omega)
      · exact .inr (by omega)
    · rcases h3 with h3 | h3
      · exact .inl (by omega)
      · right
        rw [tb0]
        rw [tb1] at h3
        simpa using h3
theorem can_eq (hG : Gr N E) (hN : N ≤ 7) {most without : Int} (hm : 0 ≤ most) : (canL N E most without).map nod = candF N E most without := by
  have hp := Nat.two_pow_pos N
  have hp7 : 2 ^ N ≤ 128 := Nat.pow_le_pow_right (n := 2) (by decide) hN
  have hnd : (bfsF (alwF (allN N) most without) (hulF N E)).Nodup := (bfs_fine (hul_lt hN) 200).1
  have hlt := bfsF_lt (allow := alwF (allN N) most without) (hul_lt (E := E) hN)
  unfold canL
  rw [dif_pos hN]
  refine ext_lt (lt := fun A B => befL A B = true) (fun A h => by rw [befL_irr] at h; cases h) (fun _ _ _ h k => befL_trans h k) ?_ (candK_pw E most without _ (by omega)) fun x => ?_
  · refine List.pairwise_map.2 ?_
    refine List.Pairwise.imp_of_mem (fun {a b} ha hb h => ?_) (srtS_pw hlt hnd)
    exact (cmpS_bef (hlt a ((srtS_mem hlt).1 ha)) (hlt b ((srtS_mem hlt).1 hb))).1 h
  · unfold candF
    rw [candK_mem, List.mem_map]
    constructor
    · rintro ⟨t, ht, rfl⟩
      obtain ⟨h1, h2, h3⟩ := (can_iff hG hN hm).1 ((srtS_mem hlt).1 ht)
      exact ⟨t, h1, h2, h3, rfl⟩
    · rintro ⟨t, h1, h2, h3, rfl⟩
      exact ⟨t, (srtS_mem hlt).2 ((can_iff hG hN hm).2 ⟨h1, h2, h3⟩), rfl⟩
theorem canR_eq (hG : Gr N E) (hN : N ≤ 7) {most without : Int} (h0 : resE N E most without = 0) : canR N E most without = candF N E most without := by
  unfold canR
  rw [if_pos h0, Int.toNat_natCast]
  exact can_eq hG hN (resE_ok h0).2.1
end
end Go.Proofs.YtbcjdjlihhlkaaaDoor
namespace Go.Proofs.YtbcjdjlihhlkaaaDoor
open Go Go.RowKit Go.Dw
theorem leaF_inv (allow : Nat → Bool) : ∀ (L : List Nat) (M : List Nat) (g : Nat × Bool), (g.2 = M.any allow ∧ (g.2 = true → g.1 ∈ M ∧ allow g.1 = true ∧ ∀ h ∈ M, allow h = true → ¬ cmpS h g.1 < 0) ∧ (g.2 = false → g.1 = 0)) →
    ((L.foldl (leaS allow) g).2 = (M ++ L).any allow ∧ ((L.foldl (leaS allow) g).2 = true → (L.foldl (leaS allow) g).1 ∈ M ++ L ∧ allow (L.foldl (leaS allow) g).1 = true ∧ ∀ h ∈ M ++ L, allow h = true → ¬ cmpS h (L.foldl (leaS allow) g).1 < 0) ∧ ((L.foldl (leaS allow) g).2 = false → (L.foldl (leaS allow) g).1 = 0))
  | [], M, g, h => by rw [List.append_nil]; exact h
  | x :: L, M, g, ⟨h1, h2, h3⟩ => by
    have := leaF_inv allow L (M ++ [x]) (leaS allow g x) ?_
    · rw [List.append_assoc] at this
      exact this
    · unfold leaS
      cases hx : allow x with
      | false =>
        rw [Bool.false_and, if_neg (by decide)]
        refine ⟨by rw [List.any_append, ← h1, List.any_cons, hx]; simp, fun hg => ?_, h3⟩
        obtain ⟨q1, q2, q3⟩ := h2 hg
        refine ⟨by simp [q1], q2, fun y hy ha => ?_⟩
        rcases List.mem_append.1 hy with hy | hy
        · exact q3 y hy ha
        · rw [List.mem_singleton.1 hy, hx] at ha; cases ha
      | true =>
        rw [Bool.true_and]
        cases hg : g.2 with
        | false =>
          rw [Bool.not_false, Bool.true_or, if_pos rfl]
          refine ⟨by rw [List.any_append, List.any_cons, hx]; simp, fun _ => ⟨by simp, hx, fun y hy ha => ?_⟩, fun h => by cases h⟩
          rcases List.mem_append.1 hy with hy | hy
          · rw [hg] at h1
            have := List.any_eq_false.1 h1.symm y hy
            exact absurd ha this
          · rw [List.mem_singleton.1 hy]
            show ¬ cmpS x x < 0
            rw [cmpS_lt, cmpL_self]; omega
        | true =>
          rw [Bool.not_true, Bool.false_or]
          obtain ⟨q1, q2, q3⟩ := h2 hg
          split
          · rename_i hc
            have hc := of_decide_eq_true hc
            refine ⟨by rw [List.any_append, List.any_cons, hx]; simp, fun _ => ⟨by simp, hx, fun y hy ha => ?_⟩, fun h => by cases h⟩
            rcases List.mem_append.1 hy with hy | hy
            · intro (h : cmpS y x < 0)
              exact q3 y hy ha (by
                rw [cmpS_lt] at *
                rcases h with h | h <;> rcases hc with hc | hc
                · exact .inl (by omega)
                · exact .inl (by omega)
                · exact .inl (by omega)
                · exact .inr ⟨by omega, cmpL_trans h.2 hc.2⟩)
            · rw [List.mem_singleton.1 hy]
              show ¬ cmpS x x < 0
              rw [cmpS_lt, cmpL_self]; omega
          · rename_i hc
            refine ⟨by rw [List.any_append, ← h1, hg]; simp, fun _ => ⟨by simp [q1], q2, fun y hy ha => ?_⟩, fun h => by rw [hg] at h; cases h⟩
            rcases List.mem_append.1 hy with hy | hy
            · exact q3 y hy ha
            · rw [List.mem_singleton.1 hy]
              simpa using hc
theorem leaF_spec (allow : Nat → Bool) (H : List Nat) : (leaF allow H).2 = H.any allow ∧ ((leaF allow H).2 = true → (leaF allow H).1 ∈ H ∧ allow (leaF allow H).1 = true ∧ ∀ h ∈ H, allow h = true → ¬ cmpS h (leaF allow H).1 < 0) ∧ ((leaF allow H).2 = false → (leaF allow H).1 = 0) := by
  have := leaF_inv allow H [] (0, false) ⟨rfl, (fun h => by cases h), fun _ => rfl⟩
  exact this
theorem full_dec : ∀ N : Fin 8, ∀ s : Fin 128, s.1 < 2 ^ N.1 → ((nod s.1).length ≤ N.1 ∧ ((nod s.1).length = N.1 ↔ s.1 = 2 ^ N.1 - 1)) := by decide +kernel
theorem full_iff {N s : Nat} (hN : N ≤ 7) (hs : s < 2 ^ N) : (nod s).length ≤ N ∧ ((nod s).length = N ↔ s = 2 ^ N - 1) :=
  full_dec ⟨N, by omega⟩ ⟨s, Nat.lt_of_lt_of_le hs (Nat.pow_le_pow_right (n := 2) (by decide) hN)⟩ hs
section
variable {N : Nat} {E : List (Int × Int)}
theorem hulM_one (hG : Gr N E) {i : Nat} (hi : i < N) : hulM E N (2 ^ i) = hulv N E i := Sub.antisymm
  (fun v hv => by
    obtain ⟨x, hx, hk⟩ := (hul_bit hG (s := 2 ^ i) (fun v hv => by rw [Nat.testBit_two_pow] at hv; have := of_decide_eq_true hv; omega)).1 hv
    rw [Nat.testBit_two_pow] at hx
    have := of_decide_eq_true hx
    subst this
    exact (hulv_bit hG hi).2 hk)
  (fun v hv => (hul_bit hG (s := 2 ^ i) (fun v hv => by rw [Nat.testBit_two_pow] at hv; have := of_decide_eq_true hv; omega)).2 ⟨i, Nat.testBit_two_pow_self, (hulv_bit hG hi).1 hv⟩)
/-- no candidate: no hull is one -/
theorem none_iff (hG : Gr N E) (hN : N ≤ 7) {most without : Int} (hm : 0 ≤ most) : (candF N E most without).length = 0 ↔ (hulF N E).any (alwF (allN N) most without) = false := by
  have hcl : (candF N E most without).length = (bfsF (alwF (allN N) most without) (hulF N E)).length := by
    rw [← can_eq hG hN hm, List.length_map]
    unfold canL
    rw [dif_pos hN, srtS_len]
  rw [hcl]
  constructor
  · intro h
    have h := List.eq_nil_of_length_eq_zero h
    rw [List.any_eq_false]
    intro x hx ha
    obtain ⟨i, hi, rfl⟩ := List.mem_map.1 hx
    have hi' := List.mem_range.1 hi
    have : hulv N E i ∈ bfsF (alwF (allN N) most without) (hulF N E) := (mem_bfs hG hN (alwF_her hN most without)).2 ⟨(fun e => by
      have := hulv_self hG hi'
      rw [e, Nat.zero_testBit] at this; cases this), ha, hulv_cls hG hi', hulv_rng hG hi'⟩
    rw [h] at this; cases this
  · intro h
    rcases hL : bfsF (alwF (allN N) most without) (hulF N E) with _ | ⟨t, r⟩
    · rfl
    · have ht : t ∈ bfsF (alwF (allN N) most without) (hulF N E) := by rw [hL]; simp
      obtain ⟨h0, ha, hc, hr⟩ := (mem_bfs hG hN (alwF_her hN most without)).1 ht
      obtain ⟨v, hv⟩ := ne0_bit h0
      have hvN := hr v hv
      have h1 := alwF_her hN most without t (hulv N E v) hr (hulv_sub hG hc hvN hv) (fun e => by
        have := hulv_self hG hvN
        rw [e, Nat.zero_testBit] at this; cases this) ha
      exact absurd h1 (List.any_eq_false.1 h _ (List.mem_map.2 ⟨v, List.mem_range.2 hvN, rfl⟩))
/-- the law's word for a node whose hull is no candidate -/
def outP (N : Nat) (E : List (Int × Int)) (limit x : Int) (i : Nat) : Bool := decide ((i : Int) = x) || decide (((nod (hulv N E i)).length : Int) > limit) || (decide (x ≥ 0) && decide (((hulv N E i >>> x.toNat &&& 1 : Nat) : Int) = 1))
def limF (N : Nat) (k : Int) : Int := if k > 0 then min ((N : Int) - 1) k else (N : Int) - 1
theorem outP_iff (hG : Gr N E) (hN : N ≤ 7) {k x : Int} (hk : 0 ≤ k) {i : Nat} (hi : i < N) : outP N E (limF N k) x i = !alwF (allN N) k x (hulv N E i) := by
  have hs := bits_lt (hulv_rng hG hi)
  have h128 := Nat.lt_of_lt_of_le hs (Nat.pow_le_pow_right (n := 2) (by decide) hN)
  obtain ⟨f1, f2⟩ := full_iff hN hs
  have hself := hulv_self hG hi
  unfold outP alwF
  rw [ones_len h128, allN_eq]
  generalize hulv N E i = h at *
  have hlim : ((nod h).length : Int) > limF N k ↔ (h = 2 ^ N - 1 ∨ (k > 0 ∧ ((nod h).length : Int) > k)) := by
    unfold limF
    rw [← f2]
    split <;> omega
  rw [Bool.eq_iff_iff]
  simp only [Bool.or_eq_true, Bool.and_eq_true, decide_eq_true_eq, Bool.not_eq_true', Bool.and_eq_false_iff, Bool.or_eq_false_iff, decide_eq_false_iff_not]
  rw [hlim, tb1, tb0]
  constructor
  · rintro ((h1 | h1 | h1) | h1)
    · refine .inr ⟨by omega, fun h2 => ?_⟩
      rw [← h1, Int.toNat_natCast, hself] at h2; cases h2
    · exact .inl (.inl (by omega))
    · exact .inl (.inr ⟨by omega, by omega⟩)
    · refine .inr ⟨by omega, fun h2 => ?_⟩
      rw [h1.2] at h2; cases h2
  · rintro ((h1 | h1) | h1)
    · exact .inl (.inr (.inl (by omega)))
    · exact .inl (.inr (.inr ⟨by omega, by omega⟩))
    · exact .inr ⟨by omega, by simpa using h1.2⟩
theorem hel_eq (hG : Gr N E) (hN : N ≤ 7) {k x : Int} (h0 : resE N E k x = 0) : helF N E k x = (List.range N).all (outP N E (limF N k) x) := by
  have hk := (resE_ok h0).2.1
  unfold helF leaR
  rw [if_pos h0, decide_eq_true h0, Bool.true_and, Int.toNat_natCast, (leaF_spec _ _).1]
  unfold hulF
  rw [Bool.eq_iff_iff]
  simp only [Bool.not_eq_true', List.any_eq_false, List.all_eq_true, List.mem_map, List.mem_range]
  constructor
  · intro h i hi
    rw [outP_iff hG hN hk hi]
    have := h _ ⟨i, hi, rfl⟩
    simpa using this
  · rintro h _ ⟨i, hi, rfl⟩ ha
    have := h i hi
    rw [outP_iff hG hN hk hi, ha] at this
    cases this
theorem hel_none (hG : Gr N E) (hN : N ≤ 7) {k x : Int} (h0 : resE N E k x = 0) : helF N E k x = decide ((candF N E k x).length = 0) := by
  have hk := (resE_ok h0).2.1
  unfold helF leaR
  rw [if_pos h0, decide_eq_true h0, Bool.true_and, Int.toNat_natCast, (leaF_spec _ _).1, Bool.eq_iff_iff, decide_eq_true_eq, none_iff hG hN hk]
  simp
end
end Go.Proofs.YtbcjdjlihhlkaaaDoor
namespace Go.Proofs.YtbcjdjlihhlkaaaDoor
open Go Go.RowKit Go.Dw
def comB (N : Nat) (E : List (Int × Int)) (i k : Nat) : Bool := (hulM E N (2 ^ i)).testBit k && (hulM E N (2 ^ k)).testBit i
def comK (N : Nat) (E : List (Int × Int)) (i : Nat) : Nat → Nat
  | 0 => 0
  | k + 1 => if comB N E i k then comK N E i k ||| 2 ^ k else comK N E i k
theorem comK_bit (N : Nat) (E : List (Int × Int)) (i v : Nat) : ∀ k, (comK N E i k).testBit v = (decide (v < k) && comB N E i v)
  | 0 => by unfold comK; simp
  | k + 1 => by
    have ih := comK_bit N E i v k
    unfold comK
    split
    · rename_i h
      rw [Nat.testBit_or, ih, Nat.testBit_two_pow]
      by_cases hv : k = v
      · subst hv; rw [h]; simp
      · have e1 : decide (k = v) = false := decide_eq_false hv
        have e2 : decide (v < k + 1) = decide (v < k) := decide_eq_decide.2 (by omega)
        rw [e1, e2, Bool.or_false]
    · rename_i h
      rw [ih]
      by_cases hv : v = k
      · subst hv
        rw [show comB N E i v = false by simpa using h]; simp
      · rw [decide_eq_decide.2 (show v < k ↔ v < k + 1 by omega)]
theorem comK_lt {N : Nat} {E : List (Int × Int)} {i k : Nat} (hk : k ≤ 63) : comK N E i k < 9223372036854775808 := Nat.lt_pow_two_of_testBit (n := 63) _ fun v hv => by
  rw [comK_bit, decide_eq_false (by omega), Bool.false_and]
set_option maxRecDepth 10000 in
theorem modComp_spec {a : Option Addr} {n c : Nat} {E : List (Int × Int)} (N : Nat) (w : World) (hL : Sl (encF fE) 2 (Hp.whole w) a n c E) (hG : Gr N E) (hN : N ≤ 62) (i : Nat) (hi : i < N) :
    CallsE Tryd.prog 16 #[gv N a n c, .int .i64 i] w (RetV w (.int .i64 (comK N E i N : Nat))) := by
  refine enter (X := cx 36) (cxg _) (args := [.agg #[.int .i64 N, .slice a n c], .int .i64 i]) [.tmp 4] Tryd.func16 rfl rfl rfl rfl rfl ?_
  intro b1
  refine NeedL.mk Nat (fun k => [(1, .v (.int .i64 i)), (2, .bx 1 0), (5, .v (.int .i64 (comK N E i k : Nat))), (6, .v (.int .i64 k))]) (fun _ => [.hp (Hp.whole w), .box b1 [.int .i64 N, .slice a n c] 28])
    (fun k => k ≤ N) (fun k => N - k) 0 (Nat.zero_le _) (Ent.mk (fun _ _ h => h) rfl rfl) ?_
  rintro k hk
  refine bsplitd (fun hlt => ?_) (fun hge => ?_)
  · have hk' : k < N := by omega
    have st : comK N E i (k + 1) = if comB N E i k then comK N E i k ||| 2 ^ k else comK N E i k := rfl
    have hcl := comK_lt (N := N) (E := E) (i := i) (k := k) (by omega)
    obtain ⟨h1, hh1⟩ : ∃ h, h = hulM E N (2 ^ i) := ⟨_, rfl⟩
    obtain ⟨h2, hh2⟩ : ∃ h, h = hulM E N (2 ^ k) := ⟨_, rfl⟩
    have l1 : h1 < 9223372036854775808 := by rw [hh1]; exact hul_lt63 hG (by omega) (pow_lt63 (by omega)) N
    have l2 : h2 < 9223372036854775808 := by rw [hh2]; exact hul_lt63 hG (by omega) (pow_lt63 (by omega)) N
    have hcb : comB N E i k = (h1.testBit k && h2.testBit i) := by rw [hh1, hh2]; rfl
    obtain ⟨t, ht⟩ : ∃ t, t = comK N E i k := ⟨_, rfl⟩
    rw [← ht] at st hcl
    rw [← ht]
    have kU1 : ∀ {a : Option Addr} {n c : Nat} (w : World), Sl (encF fE) 2 (Hp.whole w) a n c E → CallsE Tryd.prog 22 #[gv N a n c, .int .i64 (2 ^ i : Nat)] w (RetV w (.int .i64 h1)) := fun w h' => by
      rw [hh1]; exact modHull_spec N w h' hG (by omega) (2 ^ i) (pow_lt63 (by omega))
    have kU2 : ∀ {a : Option Addr} {n c : Nat} (w : World), Sl (encF fE) 2 (Hp.whole w) a n c E → CallsE Tryd.prog 22 #[gv N a n c, .int .i64 (2 ^ k : Nat)] w (RetV w (.int .i64 h2)) := fun w h' => by
      rw [hh2]; exact modHull_spec N w h' hG (by omega) (2 ^ k) (pow_lt63 (by omega))
    refine NeedD.cut Unit (fun _ => [(1, .v (.int .i64 i)), (2, .bx 1 0), (5, .v (.int .i64 t)), (6, .v (.int .i64 k)), (30, .v (.bool (comB N E i k)))]) (fun _ => [.hp (Hp.whole w), .box b1 [.int .i64 N, .slice a n c] 28]) (fun _ => True) (NeedD.by_order (cxg _) (.take 0 <| .take 1 <| .take 2 <| .take 4 <| .run 3 <| .take 5 <| .take 6 <| .take 7 <| .take 8 <| .take 9 <| .take 10 <| .take 11 <| .take 13 <| .run 12 <| .take 14 <| .take 15 <| .take 16 <| .take 17 <| .done) (by kernel_rfl) ?_) ?_
    · refine qShlI i rfl rfl (by omega) ?_
      refine callV _ (fun w' hm => kU1 w' (hL.mono (encF_mono _) (hm 0 _ rfl))) ?_
      refine ⟨(by repeat first | exact trivial | refine ⟨.inl rfl, ?_⟩ | refine ⟨.inr rfl, ?_⟩), ?_⟩
      refine qShrI h1 k rfl rfl (by omega) ?_
      refine qAndI (h1 >>> k) 1 rfl rfl (by have := shr_le h1 k; omega) (by decide) ?_
      refine bsplitd (fun hb1 => ?_) (fun hb1 => ?_)
      · rw [tb1.1 hb1, Bool.true_and] at hcb
        refine qShlI k rfl rfl (by omega) ?_
        refine callV _ (fun w' hm => kU2 w' (hL.mono (encF_mono _) (hm 0 _ rfl))) ?_
        refine ⟨(by repeat first | exact trivial | refine ⟨.inl rfl, ?_⟩ | refine ⟨.inr rfl, ?_⟩), ?_⟩
        refine qShrI h2 i rfl rfl (by omega) ?_
        refine qAndI (h2 >>> i) 1 rfl rfl (by have := shr_le h2 i; omega) (by decide) ?_
        have e : decide (((h2 >>> i &&& 1 : Nat) : Int) = 1) = comB N E i k := by
          rw [hcb]
          cases hq : h2.testBit i with
          | true => exact decide_eq_true (tb1.2 hq)
          | false => exact decide_eq_false fun h => by rw [tb1.1 h] at hq; cases hq
        exact ⟨(), trivial, Ent.mk (fun _ _ h => h) (by rw [e]; rfl) rfl⟩
      · have e : comB N E i k = false := by
          rw [hcb]
          cases hq : h1.testBit k with
          | true => exact absurd (tb1.2 hq) hb1
          | false => rfl
        refine ⟨(by repeat first | exact trivial | refine ⟨.inl rfl, ?_⟩ | refine ⟨.inr rfl, ?_⟩), ?_⟩
        exact ⟨(), trivial, Ent.mk (fun _ _ h => h) (by rw [e]; rfl) rfl⟩
    rintro ⟨⟩ _ _
    dsimp only
    refine bsplit (fun hb => ?_) (fun hb => ?_)
    · rw [if_pos hb] at st
      refine qShlI k rfl rfl (by omega) ?_
      refine qOrI t (2 ^ k) rfl rfl hcl (pow_lt63 (by omega)) ?_
      refine nw (by omega) (by omega) ?_
      exact ⟨k + 1, by omega, by omega, Ent.mk (fun _ _ h => h) (by rw [st]; rfl) rfl⟩
    · rw [if_neg (by rw [hb]; decide)] at st
      refine nw (by omega) (by omega) ?_
      exact ⟨k + 1, by omega, by omega, Ent.mk (fun _ _ h => h) (by rw [st]; rfl) rfl⟩
  · rw [show k = N by omega]
    exact ⟨[], ⟨rfl, rfl⟩, fun w' h => h.pick [0] rfl rfl⟩
end Go.Proofs.YtbcjdjlihhlkaaaDoor
namespace Go.Proofs.YtbcjdjlihhlkaaaDoor
open Go Go.RowKit Go.Dw
theorem filt_idx {β : Type} (R : List Nat) (p q : Nat → Bool) (f g : Nat → β) (h : ∀ k (hk : k < R.length), p k = q R[k] ∧ g k = f R[k]) : ((List.range R.length).filter p).map g = (R.filter q).map f := by
  have hR : R = (List.range R.length).map fun k => R.getD k 0 := by
    refine List.ext_getElem (by simp) fun i h1 h2 => ?_
    simp [List.getD, h1]
  have e : (R.filter q).map f = (((List.range R.length).map fun k => R.getD k 0).filter q).map f := by rw [← hR]
  rw [e, List.filter_map, List.map_map]
  have hg : ∀ k, k < R.length → R.getD k 0 = R[k]! := fun k hk => by simp [List.getD, hk]
  have e1 : (List.range R.length).filter p = (List.range R.length).filter (q ∘ fun k => R.getD k 0) := List.filter_congr fun k hk => by
    have hk := List.mem_range.1 hk
    rw [(h k hk).1]
    simp [List.getD, hk]
  rw [e1]
  refine List.map_congr_left fun k hk => ?_
  have hk := List.mem_range.1 (List.mem_filter.1 hk).1
  rw [(h k hk).2]
  simp [List.getD, hk]
section
variable {N : Nat} {E : List (Int × Int)}
theorem comB_eqv (hG : Gr N E) {i k : Nat} (hi : i < N) (hk : k < N) : comB N E i k = eqv N E i k := by
  unfold comB eqv
  rw [hulM_one hG hi, hulM_one hG hk, Bool.eq_iff_iff, Bool.and_eq_true, Bool.and_eq_true, hulv_bit hG hi, hulv_bit hG hk, rch_iff hG (by omega), rch_iff hG (by omega)]
theorem com_bit (hG : Gr N E) {i : Nat} (hi : i < N) (v : Nat) : (comK N E i N).testBit v = (decide (v < N) && eqv N E i v) := by
  rw [comK_bit]
  by_cases h : v < N
  · rw [comB_eqv hG hi h]
  · rw [decide_eq_false h, Bool.false_and, Bool.false_and]
theorem com_rng (hG : Gr N E) {i : Nat} (hi : i < N) : ∀ v, (comK N E i N).testBit v = true → v < N := fun v hv => by
  rw [com_bit hG hi, Bool.and_eq_true] at hv
  exact of_decide_eq_true hv.1
theorem com_nod (hG : Gr N E) {i : Nat} (hi : i < N) : nod (comK N E i N) = cls N E i := by
  rw [nod_rng hG.hN (com_rng hG hi)]
  unfold nodK cls
  congr 1
  refine List.filter_congr fun v hv => ?_
  rw [com_bit hG hi, decide_eq_true (List.mem_range.1 hv), Bool.true_and]
theorem cls_mem {i v : Nat} : (v : Int) ∈ cls N E i ↔ v < N ∧ eqv N E i v = true := by
  unfold cls
  rw [mem_cast]
  constructor
  · rintro ⟨u, h1, h2, h3⟩
    have : u = v := by omega
    subst this
    exact ⟨h1, h2⟩
  · intro h; exact ⟨v, h.1, h.2, rfl⟩
theorem com_of (hG : Gr N E) {i : Nat} (hi : i < N) : comK N E i N = ofN (cls N E i) := Nat.eq_of_testBit_eq fun v => by
  rw [com_bit hG hi, ofN_bit (L := cls N E i) (fun x hx => by unfold cls at hx; obtain ⟨u, _, _, rfl⟩ := mem_cast.1 hx; exact Int.natCast_nonneg _)]
  rw [Bool.eq_iff_iff, Bool.and_eq_true, decide_eq_true_eq, decide_eq_true_eq, cls_mem]
theorem sink_cls (hG : Gr N E) {k : Nat} (hk : k < (reps N E N).length) : isSink N E k = clsE E (comK N E ((reps N E N)[k]) N) := by
  have hkc : k < (compF N E).length := by rw [comp_len]; exact hk
  have hr := reps_lt (List.getElem_mem hk)
  have hget : (compF N E)[k] = cls N E (reps N E N)[k] := by simp [compF]
  have hof : ∀ {v : Nat}, v < N → ((comK N E ((reps N E N)[k]) N).testBit v = true ↔ ofv N E v = k) := fun {v} hv => by
    rw [com_bit hG hr.1, decide_eq_true hv, Bool.true_and, ← mem_comp hG hkc hv, hget, cls_mem]
    exact ⟨fun h => ⟨hv, h⟩, fun h => h.2⟩
  unfold isSink
  rw [Bool.eq_iff_iff, cls_iff, Bool.not_eq_true', List.any_eq_false]
  constructor
  · intro h e he hb
    obtain ⟨r1, r2, r3, r4⟩ := hG.rng e he
    have e1 := (hof (v := e.1.toNat) (by omega)).1 hb
    rw [Int.toNat_of_nonneg r1] at e1
    refine (hof (v := e.2.toNat) (by omega)).2 ?_
    rw [Int.toNat_of_nonneg r3]
    refine Classical.byContradiction fun hne => ?_
    have := h (ofv N E e.1, ofv N E e.2) ((cond_mem hG).2 ⟨e, he, fun h' => hne (by rw [← h', e1]), rfl⟩)
    simp only [decide_eq_true_eq] at this
    exact this e1
  · intro h p hp
    obtain ⟨e, he, hne, rfl⟩ := (cond_mem hG).1 hp
    obtain ⟨r1, r2, r3, r4⟩ := hG.rng e he
    simp only [decide_eq_true_eq]
    intro e1
    have hb := (hof (v := e.1.toNat) (by omega)).2 (by rw [Int.toNat_of_nonneg r1]; exact e1)
    have h2 := (hof (v := e.2.toNat) (by omega)).1 (h e he hb)
    rw [Int.toNat_of_nonneg r3] at h2
    exact hne (by rw [e1, h2])
theorem sink_eq (hG : Gr N E) : sinkF N E = ((reps N E N).filter fun i => clsE E (comK N E i N)).map (cls N E) := by
  unfold sinkF sinkK
  rw [comp_len]
  refine filt_idx _ _ _ _ _ fun k hk => ⟨sink_cls hG hk, ?_⟩
  have hkc : k < (compF N E).length := by rw [comp_len]; exact hk
  rw [List.getD_eq_getElem?_getD, List.getElem?_eq_getElem hkc]
  simp [compF]
/-- the model's minimal candidates -/
def miP (N : Nat) (E : List (Int × Int)) (i : Nat) : Bool := clsE E (comK N E i N) && decide (((comK N E i N : Nat) : Int) ≠ ((2 ^ N : Nat) : Int) - 1) && decide ((cls N E i).getD 0 0 = (i : Int))
def miK (N : Nat) (E : List (Int × Int)) (k : Nat) : List (List Int) := ((List.range k).filter (miP N E)).map (cls N E)
theorem miK_succ (N : Nat) (E : List (Int × Int)) (k : Nat) : miK N E (k + 1) = if miP N E k then miK N E k ++ [cls N E k] else miK N E k := by
  unfold miK
  rw [List.range_succ, List.filter_append, List.map_append]
  by_cases h : miP N E k <;> simp [h]
theorem miK_len (N : Nat) (E : List (Int × Int)) (k : Nat) : (miK N E k).length ≤ k := by
  unfold miK; rw [List.length_map]; exact Nat.le_trans (List.length_filter_le _ _) (by simp)
theorem head_least (hG : Gr N E) {i : Nat} (hi : i < N) : decide ((cls N E i).getD 0 0 = (i : Int)) = isLeast N E i := by
  obtain ⟨h, he⟩ := cls_head hG hi
  have : (cls N E i).getD 0 0 = (cls N E i)[0] := by simp [List.getD, h]
  rw [Bool.eq_iff_iff, decide_eq_true_eq, this, he]
theorem com_full (hG : Gr N E) (hN : N ≤ 7) {i : Nat} (hi : i < N) : (cls N E i).length = N ↔ comK N E i N = 2 ^ N - 1 := by
  rw [← com_nod hG hi]
  exact (full_iff hN (bits_lt (com_rng hG hi))).2
theorem min_eq (hG : Gr N E) (hN : N ≤ 7) (h0 : checkF N E = 0) : minR N E = miK N E N := by
  have hp := Nat.two_pow_pos N
  have hK : miK N E N = ((reps N E N).filter fun i => clsE E (comK N E i N) && decide (comK N E i N ≠ 2 ^ N - 1)).map (cls N E) := by
    unfold miK reps
    rw [List.filter_filter]
    congr 1
    refine List.filter_congr fun i hi => ?_
    have hi := List.mem_range.1 hi
    unfold miP
    rw [head_least hG hi]
    congr 2
    exact decide_eq_decide.2 (by omega)
  unfold minR
  rw [if_pos h0, Int.toNat_natCast, hK]
  by_cases hA : ∃ r ∈ reps N E N, comK N E r N = 2 ^ N - 1
  · obtain ⟨r, hr, hc⟩ := hA
    have hrl := reps_lt hr
    have hall : ∀ v, v < N → eqv N E r v = true := fun v hv => by
      have := com_bit hG hrl.1 v
      rw [hc, Nat.testBit_two_pow_sub_one, decide_eq_true hv, Bool.true_and] at this
      exact this.symm
    have hone : ∀ x ∈ reps N E N, x = r := fun x hx => by
      have hxl := reps_lt hx
      rcases Nat.lt_trichotomy x r with h | h | h
      · have := List.all_eq_true.1 hrl.2 x (List.mem_range.2 h)
        rw [eqv_symm, hall x hxl.1] at this; cases this
      · exact h
      · have := List.all_eq_true.1 hxl.2 r (List.mem_range.2 h)
        rw [hall x hxl.1] at this; cases this
    have hnd : (reps N E N).Nodup := (List.nodup_range).filter _
    have hreps : reps N E N = [r] := by
      rcases hq : reps N E N with _ | ⟨x, t⟩
      · rw [hq] at hr; cases hr
      · rw [hq] at hone hnd
        have hx := hone x (by simp)
        subst hx
        rcases t with _ | ⟨y, t⟩
        · rfl
        · have := hone y (by simp)
          subst this
          simp at hnd
    have hcl : clsE E (comK N E r N) = true := by
      rw [cls_iff]
      intro e he _
      obtain ⟨r1, r2, r3, r4⟩ := hG.rng e he
      rw [hc, Nat.testBit_two_pow_sub_one]
      exact decide_eq_true (by omega)
    have hs : sinkF N E = [cls N E r] := by rw [sink_eq hG, hreps]; simp [hcl]
    rw [if_pos ⟨by rw [hs]; rfl, by rw [hs]; show ((cls N E r).length : Int) = N; rw [(com_full hG hN hrl.1).2 hc]⟩, hreps]
    simp [hc]
  · have hf : (reps N E N).filter (fun i => clsE E (comK N E i N) && decide (comK N E i N ≠ 2 ^ N - 1)) = (reps N E N).filter fun i => clsE E (comK N E i N) := List.filter_congr fun i hi => by
      rw [decide_eq_true (show comK N E i N ≠ 2 ^ N - 1 from fun h => hA ⟨i, hi, h⟩), Bool.and_true]
    rw [hf, ← sink_eq hG, if_neg]
    rintro ⟨h1, h2⟩
    rw [sink_eq hG, List.length_map] at h1
    rw [sink_eq hG] at h2
    rcases hq : (reps N E N).filter (fun i => clsE E (comK N E i N)) with _ | ⟨x, t⟩
    · rw [hq] at h1; simp at h1
    · rw [hq] at h2
      have hx : x ∈ reps N E N := (List.mem_filter.1 (show x ∈ (reps N E N).filter (fun i => clsE E (comK N E i N)) by rw [hq]; simp)).1
      have h3 : ((cls N E x).length : Int) = N := h2
      exact hA ⟨x, hx, (com_full hG hN (reps_lt hx).1).1 (by omega)⟩
theorem cnt_eq (hG : Gr N E) (hN : N ≤ 7) (h0 : checkF N E = 0) : cntF N E = if N = 0 then 1 else ((candF N E 0 (-1)).length : Int) + 2 := by
  have hp7 : 2 ^ N ≤ 128 := Nat.pow_le_pow_right (n := 2) (by decide) hN
  unfold cntF
  rw [if_pos h0, Int.toNat_natCast]
  split
  · rename_i hz
    subst hz
    have : bfsF (fun _ => true) (hulF 0 E) = [] := List.eq_nil_iff_forall_not_mem.2 fun t ht => by
      obtain ⟨q1, _, _, q4⟩ := (mem_bfs hG hN (true_her 0)).1 ht
      obtain ⟨v, hv⟩ := ne0_bit q1
      have := q4 v hv
      omega
    rw [this]; rfl
  · rename_i hz
    have hp : 2 ≤ 2 ^ N := by
      have := Nat.pow_le_pow_right (n := 2) (by decide) (show 1 ≤ N by omega)
      omega
    have hcl : (candF N E 0 (-1)).length = (bfsF (alwF (allN N) 0 (-1)) (hulF N E)).length := by
      rw [← can_eq hG hN (by decide), List.length_map]
      unfold canL
      rw [dif_pos hN, srtS_len]
    have n1 : (bfsF (fun _ => true) (hulF N E)).Nodup := (bfs_fine (hul_lt hN) 200).1
    have n2 : (bfsF (alwF (allN N) 0 (-1)) (hulF N E)).Nodup := (bfs_fine (hul_lt hN) 200).1
    have m1 : ∀ t, t ∈ bfsF (fun _ => true) (hulF N E) ↔ t ≠ 0 ∧ clsE E t = true ∧ t < 2 ^ N := fun t => by
      rw [mem_bfs hG hN (true_her N), bits_iff]; simp
    have m2 : ∀ t, t ∈ bfsF (alwF (allN N) 0 (-1)) (hulF N E) ↔ t ≠ 0 ∧ clsE E t = true ∧ t < 2 ^ N ∧ t ≠ 2 ^ N - 1 := fun t => by
      rw [mem_bfs hG hN (alwF_her hN 0 (-1)), bits_iff, allN_eq]
      have ha : alwF (2 ^ N - 1) 0 (-1) t = true ↔ t ≠ 2 ^ N - 1 := by
        simp [alwF]
        omega
      rw [ha]
      constructor
      · rintro ⟨q1, q2, q3, q4⟩; exact ⟨q1, q3, q4, q2⟩
      · rintro ⟨q1, q2, q3, q4⟩; exact ⟨q1, q4, q2, q3⟩
    have hfull : clsE E (2 ^ N - 1) = true := by
      rw [cls_iff]
      intro e he _
      obtain ⟨r1, r2, r3, r4⟩ := hG.rng e he
      rw [Nat.testBit_two_pow_sub_one]
      exact decide_eq_true (by omega)
    have n3 : ((2 ^ N - 1) :: bfsF (alwF (allN N) 0 (-1)) (hulF N E)).Nodup := List.nodup_cons.2 ⟨fun h => ((m2 _).1 h).2.2.2 rfl, n2⟩
    have l1 := sub_lenG n1 (B := (2 ^ N - 1) :: bfsF (alwF (allN N) 0 (-1)) (hulF N E)) fun t ht => by
      obtain ⟨q1, q2, q3⟩ := (m1 t).1 ht
      by_cases h : t = 2 ^ N - 1
      · rw [h]; simp
      · exact .tail _ ((m2 t).2 ⟨q1, q2, q3, h⟩)
    have l2 := sub_lenG n3 (B := bfsF (fun _ => true) (hulF N E)) fun t ht => by
      rcases List.mem_cons.1 ht with h | h
      · rw [h]; exact (m1 _).2 ⟨by omega, hfull, by omega⟩
      · obtain ⟨q1, q2, q3, _⟩ := (m2 t).1 h
        exact (m1 t).2 ⟨q1, q2, q3⟩
    rw [List.length_cons] at l1 l2
    omega
theorem sub_eq {u t : Nat} (ht : t < 18446744073709551616) (h : Sub u t) (hl : (nod t).length ≤ (nod u).length) : u = t := by
  refine Sub.antisymm h fun v hv => ?_
  have hv64 : v < 64 := by
    rcases Nat.lt_or_ge v 64 with h1 | h1
    · exact h1
    · rw [Nat.testBit_lt_two_pow (Nat.lt_of_lt_of_le ht (Nat.pow_le_pow_right (n := 2) (by decide) h1 : 2 ^ 64 ≤ 2 ^ v))] at hv; cases hv
  have e : nodN u = (nodN t).filter fun i => u.testBit i := by
    unfold nodN
    rw [List.filter_filter]
    refine List.filter_congr fun i _ => ?_
    cases hu : u.testBit i with
    | false => rfl
    | true => rw [h i hu]; rfl
  unfold nod at hl
  rw [List.length_map, List.length_map, e] at hl
  have := (List.length_filter_eq_length_iff).1 (Nat.le_antisymm (List.length_filter_le _ _) hl)
  exact this v (mem_nodN.2 ⟨hv64, hv⟩)
theorem lea_eq (hG : Gr N E) (hN : N ≤ 7) {most without : Int} (h0 : resE N E most without = 0) :
    (leaR N E most without).2 = decide (0 < (candF N E most without).length) ∧ ((leaR N E most without).2 = true → nod (leaR N E most without).1 = (candF N E most without).getD 0 []) ∧ ((leaR N E most without).2 = false → nod (leaR N E most without).1 = []) := by
  have hm := (resE_ok h0).2.1
  unfold leaR
  rw [if_pos h0, Int.toNat_natCast]
  obtain ⟨s1, s2, s3⟩ := leaF_spec (alwF (allN N) most without) (hulF N E)
  have hni := none_iff hG hN (most := most) (without := without) hm
  have hp7 : 2 ^ N ≤ 128 := Nat.pow_le_pow_right (n := 2) (by decide) hN
  refine ⟨?_, fun hf => ?_, fun hf => by rw [s3 hf]; exact nod_zero⟩
  · rw [s1]
    cases hq : (hulF N E).any (alwF (allN N) most without) with
    | false => rw [hni.2 hq]; rfl
    | true =>
      have : (candF N E most without).length ≠ 0 := fun h => by rw [hni.1 h] at hq; cases hq
      exact (decide_eq_true (by omega)).symm
  · obtain ⟨q1, q2, q3⟩ := s2 hf
    generalize hml : (leaF (alwF (allN N) most without) (hulF N E)).1 = m at *
    obtain ⟨i, hi, rfl⟩ := List.mem_map.1 q1
    have hi := List.mem_range.1 hi
    have hcan : ∀ {j : Nat}, j < N → alwF (allN N) most without (hulv N E j) = true → nod (hulv N E j) ∈ candF N E most without := fun {j} hj ha => by
      have hmem : hulv N E j ∈ bfsF (alwF (allN N) most without) (hulF N E) := (mem_bfs hG hN (alwF_her hN most without)).2 ⟨(fun e => by
        have := hulv_self hG hj
        rw [e, Nat.zero_testBit] at this; cases this), ha, hulv_cls hG hj, hulv_rng hG hj⟩
      obtain ⟨p1, p2, p3⟩ := (can_iff hG hN hm).1 hmem
      exact candK_mem.2 ⟨_, p1, p2, p3, rfl⟩
    have hmc := hcan hi q2
    have hpw := candK_pw E most without (2 ^ N - 2) (by omega)
    rcases hq : candF N E most without with _ | ⟨c0, r⟩
    · rw [hq] at hmc; cases hmc
    · show nod (hulv N E i) = c0
      rw [hq] at hmc
      have hpw' : (c0 :: r).Pairwise fun A B => befL A B = true := by rw [← hq]; exact hpw
      obtain ⟨b1, _⟩ := List.pairwise_cons.1 hpw'
      rcases List.mem_cons.1 hmc with h | h
      · exact h
      · exfalso
        have hlt := b1 _ h
        have hc0 : c0 ∈ candF N E most without := by rw [hq]; simp
        obtain ⟨t, t1, t2, t3, rfl⟩ := candK_mem.1 hc0
        have ht : t ∈ bfsF (alwF (allN N) most without) (hulF N E) := (can_iff hG hN hm).2 ⟨t1, t2, t3⟩
        obtain ⟨g0, ga, gc, gr⟩ := (mem_bfs hG hN (alwF_her hN most without)).1 ht
        obtain ⟨v, hv⟩ := ne0_bit g0
        have hvN := gr v hv
        have hsub := hulv_sub hG gc hvN hv
        have hva := alwF_her hN most without t (hulv N E v) gr hsub (fun e => by
          have := hulv_self hG hvN
          rw [e, Nat.zero_testBit] at this; cases this) ga
        have hvl := bits_lt128 hN (hulv_rng hG hvN)
        have htl := bits_lt128 hN gr
        have hil := bits_lt128 hN (hulv_rng hG hi)
        have hnl := q3 (hulv N E v) (List.mem_map.2 ⟨v, List.mem_range.2 hvN, rfl⟩) hva
        rw [cmpS_bef hvl hil] at hnl
        have hvc := hcan hvN hva
        rw [hq] at hvc
        rcases List.mem_cons.1 hvc with h' | h'
        · rw [h'] at hnl; exact hnl hlt
        · have hb := b1 _ h'
          rw [befL_iff] at hb
          rcases Nat.lt_or_ge (nod (hulv N E v)).length (nod t).length with hl | hl
          · omega
          · have := sub_eq (by omega) hsub hl
            rw [this] at hnl
            exact hnl hlt
end
end Go.Proofs.YtbcjdjlihhlkaaaDoor
