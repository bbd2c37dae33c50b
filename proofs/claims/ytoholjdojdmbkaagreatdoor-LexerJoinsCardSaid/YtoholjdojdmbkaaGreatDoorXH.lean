/- Parts of one proof, joined: Ij, Ik, Il, Im, In. No condition of its own. -/
import Derived.Test.YtoholjdojdmbkaaGreatDoorXF
import Derived.Test.YtoholjdojdmbkaaGreatDoorYIt
import Derived.Test.YtoholjdojdmbkaaGreatDoorYIu
import Derived.Test.YtoholjdojdmbkaaGreatDoorYIv
import Derived.Test.YtoholjdojdmbkaaGreatDoorXE
import Derived.Test.YtoholjdojdmbkaaGreatDoorXG
namespace Go.Proofs.YtoholjdojdmbkaaGreatDoor
open Go Go.RowKit Go.Dw
def preB (s p : Byts) : Bool := decide (p.length ≤ s.length) && decide (s.take p.length = p)
theorem hasPrefix0_spec (s p : Byts) (w : World) : CallsE Tryz.prog 124 #[.string (bs s), .string (bs p)] w (RetV w (.bool (preB s p))) := by
  have hs := bs_size s
  have hp := bs_size p
  refine enter (X := cx 18) (cxg _) (args := [.string (bs s), .string (bs p)]) [.tmp 4] Tryz.func124 rfl rfl rfl rfl rfl ?_
  refine bsplitd (fun h1 => ?_) (fun h1 => ?_)
  · refine qSub (cxg _) rfl rfl 0 p.length (.inl ⟨rfl, rfl⟩) (.inr ⟨_, _, rfl, by rw [hp]⟩) (by omega) (by omega) ?_
    rw [List.drop_zero]
    refine qEqL ?_
    exact ⟨[], ⟨by unfold preB; rw [decide_eq_true (show p.length ≤ s.length by omega), Bool.true_and], rfl⟩, fun w' h => h.pick [0] rfl rfl⟩
  · exact ⟨[], ⟨by unfold preB; rw [decide_eq_false (show ¬ p.length ≤ s.length by omega), Bool.false_and], rfl⟩, fun w' h => h.pick [0] rfl rfl⟩
theorem hasPrefix_spec (s p : Byts) (w : World) : CallsE Tryz.prog 96 #[.string (bs s), .string (bs p)] w (RetV w (.bool (preB s p))) := by
  refine enter (X := cx 8) (cxg _) (args := [.string (bs s), .string (bs p)]) [.tmp 4] Tryz.func96 rfl rfl rfl rfl rfl ?_
  refine callV _ (fun w' hm => hasPrefix0_spec s p w') ?_
  exact ⟨[], ⟨rfl, rfl⟩, fun w' h => h⟩
theorem preB_len {s p : Byts} (h : preB s p = true) : p.length ≤ s.length := by
  unfold preB at h
  rw [Bool.and_eq_true, decide_eq_true_eq] at h
  exact h.1
theorem cutPrefix_spec (s p : Byts) (w : World) : CallsE Tryz.prog 89 #[.string (bs s), .string (bs p)] w (RetV w (.tuple #[.string (bs (if preB s p = true then s.drop p.length else s)), .bool (preB s p)])) := by
  have h0 : ∀ w, CallsE Tryz.prog 118 #[.string (bs s), .string (bs p)] w (RetV w (.tuple #[.string (bs (if preB s p = true then s.drop p.length else s)), .bool (preB s p)])) := by
    intro w
    have hp := bs_size p
    refine enter (X := cx 15) (cxg _) (args := [.string (bs s), .string (bs p)]) [.tmp 4, .tmp 5] Tryz.func118 rfl rfl rfl rfl rfl ?_
    refine callV _ (fun w' hm => hasPrefix0_spec s p w') ?_
    refine bsplit (fun h1 => ?_) (fun h1 => ?_)
    · have h1 : preB s p = false := by simpa using h1
      exact ⟨[], ⟨by rw [h1]; rfl, rfl⟩, fun w' h => h.pick [0] rfl rfl⟩
    · have h1 : preB s p = true := by simpa using h1
      have hl := preB_len h1
      refine qSub (cxg _) rfl rfl p.length s.length (.inr ⟨_, _, rfl, by rw [hp]⟩) (.inl ⟨rfl, rfl⟩) hl (Nat.le_refl _) ?_
      rw [List.take_length]
      exact ⟨[], ⟨by rw [h1]; rfl, rfl⟩, fun w' h => h.pick [0] rfl rfl⟩
  refine enter (X := cx 11) (cxg _) (args := [.string (bs s), .string (bs p)]) [.tmp 4, .tmp 5] Tryz.func89 rfl rfl rfl rfl rfl ?_
  refine callV _ (fun w' hm => h0 w') ?_
  exact ⟨[], ⟨rfl, rfl⟩, fun w' h => h⟩
theorem trimPrefix_spec (s p : Byts) (w : World) : CallsE Tryz.prog 131 #[.string (bs s), .string (bs p)] w (RetV w (.string (bs (if preB s p = true then s.drop p.length else s)))) := by
  have h0 : ∀ w, CallsE Tryz.prog 154 #[.string (bs s), .string (bs p)] w (RetV w (.string (bs (if preB s p = true then s.drop p.length else s)))) := by
    intro w
    have hp := bs_size p
    refine enter (X := cx 13) (cxg _) (args := [.string (bs s), .string (bs p)]) [.tmp 4] Tryz.func154 rfl rfl rfl rfl rfl ?_
    refine callV _ (fun w' hm => hasPrefix0_spec s p w') ?_
    refine bsplit (fun h1 => ?_) (fun h1 => ?_)
    · have hl := preB_len h1
      refine qSub (cxg _) rfl rfl p.length s.length (.inr ⟨_, _, rfl, by rw [hp]⟩) (.inl ⟨rfl, rfl⟩) hl (Nat.le_refl _) ?_
      rw [List.take_length]
      exact ⟨[], ⟨by rw [h1]; rfl, rfl⟩, fun w' h => h.pick [0] rfl rfl⟩
    · exact ⟨[], ⟨by rw [h1]; rfl, rfl⟩, fun w' h => h.pick [0] rfl rfl⟩
  refine enter (X := cx 8) (cxg _) (args := [.string (bs s), .string (bs p)]) [.tmp 4] Tryz.func131 rfl rfl rfl rfl rfl ?_
  refine callV _ (fun w' hm => h0 w') ?_
  exact ⟨[], ⟨rfl, rfl⟩, fun w' h => h⟩
/-- the first place of a byte, or -1 -/
def idxB (c : UInt8) (l : Byts) : Int := if runN (fun d => !decide (d = c)) l < l.length then (runN (fun d => !decide (d = c)) l : Nat) else -1
theorem idxB_lib (c : UInt8) : ∀ l : Byts, Lib.indexByte l c = idxB c l
  | [] => rfl
  | b :: l => by
    have ih := idxB_lib c l
    unfold Lib.indexByte
    by_cases h : b = c
    · subst h
      rw [if_pos (by simp)]
      unfold idxB runN
      simp
    · rw [if_neg (by simpa using h), ih]
      have e : runN (fun d => !decide (d = c)) (b :: l) = runN (fun d => !decide (d = c)) l + 1 := by
        unfold runN
        rw [List.takeWhile_cons, if_pos (by simp [h])]; rfl
      unfold idxB
      rw [e, List.length_cons]
      by_cases h2 : runN (fun d => !decide (d = c)) l < l.length
      · rw [if_pos h2, if_neg (by simp), if_pos (by omega)]; rfl
      · rw [if_neg h2, if_pos (by simp), if_neg (by omega)]
theorem indexByte_spec (s : Byts) (c : UInt8) (w : World) : CallsE Tryz.prog 191 #[.string (bs s), .int .u8 c.toNat] w (RetV w (.int .i64 (idxB c s))) := by
  have hcon := Any.stringslite_IndexByte Tryz.lIB (bs s) (c.toNat : Int) w
  change Calls Tryz.prog 191 _ _ _ at hcon
  refine callsLib (enters_of Tryz.func191 (by kernel_rfl) rfl _) hcon ?_
  rintro e w' ⟨rfl, rfl⟩
  refine ⟨?_, Below.refl _ _, Nat.le_refl _⟩
  rw [bs_data, show (c.toNat : Int).toNat.toUInt8 = c by simp, idxB_lib]
theorem index1_spec (s : Byts) (c : UInt8) (w : World) : CallsE Tryz.prog 176 #[.string (bs s), .string (bs [c])] w (RetV w (.int .i64 (idxB c s))) := by
  have hs := bs_size s
  have hp := bs_size [c]
  refine enter (X := cx 143) (cxg _) (args := [.string (bs s), .string (bs [c])]) [.tmp 4] Tryz.func176 rfl rfl rfl rfl rfl ?_
  refine qEqL ?_
  refine bsplitd (fun h2 => ?_) (fun h2 => ?_)
  · exact ⟨[], ⟨by rw [← h2]; unfold idxB runN; simp, rfl⟩, fun w' h => h.pick [0] rfl rfl⟩
  · refine qIdxL (cxg _) rfl rfl 0 rfl (by simp) ?_
    refine callV _ (fun w' hm => indexByte_spec s c w') ?_
    exact ⟨[], ⟨rfl, rfl⟩, fun w' h => h.pick [0] rfl rfl⟩
theorem cut1_spec (s : Byts) (w : World) (hl : s.length < 1000000000) : CallsE Tryz.prog 129 #[.string (bs s), .string (bs [47])] w (RetV w (.tuple #[.string (bs (cutF s).1), .string (bs (cutF s).2.1), .bool (cutF s).2.2])) := by
  have h0 : ∀ w, CallsE Tryz.prog 153 #[.string (bs s), .string (bs [47])] w (RetV w (.tuple #[.string (bs (cutF s).1), .string (bs (cutF s).2.1), .bool (cutF s).2.2])) := by
    intro w
    have hp := bs_size [47]
    refine enter (X := cx 23) (cxg _) (args := [.string (bs s), .string (bs [47])]) [.tmp 4, .tmp 5, .tmp 6] Tryz.func153 rfl rfl rfl rfl rfl ?_
    refine callV _ (fun w' hm => index1_spec s 47 w') ?_
    refine bsplitd (fun h1 => ?_) (fun h1 => ?_)
    · have h2 : runN (fun d => !decide (d = 47)) s < s.length := by
        unfold idxB at h1
        split at h1
        · assumption
        · omega
      have e1 : idxB 47 s = (runN (fun d => !decide (d = 47)) s : Nat) := by unfold idxB; rw [if_pos h2]
      have e2 : cutF s = (s.take (runN (fun d => !decide (d = 47)) s), s.drop (runN (fun d => !decide (d = 47)) s + 1), true) := by unfold cutF; rw [if_pos h2]
      rw [e1, e2]
      refine NeedD.by_order (cxg _) (.take 0 <| .take 1 <| .take 2 <| .take 3 <| .take 4 <| .take 5 <| .take 6 <| .take 7 <| .take 8 <| .take 9 <| .take 10 <| .take 11 <| .done) (by kernel_rfl) ?_
      refine qSub (cxg _) rfl rfl 0 (runN (fun d => !decide (d = 47)) s) (.inl ⟨rfl, rfl⟩) (.inr ⟨_, _, rfl, rfl⟩) (by omega) (by omega) ?_
      refine nw (by rw [hp]; simp; omega) (by rw [hp]; simp; omega) ?_
      refine qSub (cxg _) rfl rfl (runN (fun d => !decide (d = 47)) s + 1) s.length (.inr ⟨_, _, rfl, by rw [hp]; simp⟩) (.inl ⟨rfl, rfl⟩) (by omega) (by omega) ?_
      rw [List.take_length, List.drop_zero]
      exact ⟨[], ⟨rfl, rfl⟩, fun w' h => h.pick [0] rfl rfl⟩
    · have h2 : ¬ runN (fun d => !decide (d = 47)) s < s.length := fun g => h1 (by unfold idxB; rw [if_pos g]; omega)
      have e2 : cutF s = (s, [], false) := by unfold cutF; rw [if_neg h2]
      rw [e2]
      exact ⟨[], ⟨rfl, rfl⟩, fun w' h => h.pick [0] rfl rfl⟩
  refine enter (X := cx 13) (cxg _) (args := [.string (bs s), .string (bs [47])]) [.tmp 4, .tmp 5, .tmp 6] Tryz.func129 rfl rfl rfl rfl rfl ?_
  refine callV _ (fun w' hm => h0 w') ?_
  exact ⟨[], ⟨rfl, rfl⟩, fun w' h => h⟩
end Go.Proofs.YtoholjdojdmbkaaGreatDoor
namespace Go.Proofs.YtoholjdojdmbkaaGreatDoor
open Go Go.RowKit Go.Dw
theorem qEqB {s : List Ch} {xo yo : Operand} {x y : Bool} {q : TV → Prop} (h : q (.v (.bool (x == y)))) :
    NeedQ Tryz.prog s (do eqGuard .eql 4 xo yo (.bool x) (.bool y); binOp .eql 4 (.bool x) (.bool y)) q := by
  refine ⟨_, fun w _ => ?_, h⟩
  have hun : (underlying 4).run Tryz.prog w = .ok .bool w := by simp [underlying, Tryz.underlying4]
  have hg : (eqGuard .eql 4 xo yo (.bool x) (.bool y)).run Tryz.prog w = .ok () w := by simp [eqGuard]
  rw [Sem.run_bind, hg]
  simp only [Result.andThen_ok, binOp, Sem.run_bind]
  unfold Op.equal Op.maxDepth
  rw [show (10000 : Nat) = 9999 + 1 from rfl]
  unfold Op.equalIn
  simp only [Sem.run_bind, hun, Result.andThen_ok]
  rfl
def idxR (p : Int → Bool) (x : ByteArray) : Int := match (List.range x.size).find? (fun i => p ((x.get! i).toNat : Int)) with
  | some i => i
  | none => -1
theorem idxR_hit {p : Int → Bool} {x : ByteArray} {k : Nat} (hk : k < x.size) (ho : ∀ i, i < k → p ((x.get! i).toNat : Int) = false) (h : p ((x.get! k).toNat : Int) = true) : idxR p x = k := by
  unfold idxR
  have : (List.range x.size).find? (fun i => p ((x.get! i).toNat : Int)) = some k := by
    rw [List.find?_range_eq_some]
    exact ⟨h, List.mem_range.2 hk, fun j hj => by rw [ho j hj]; rfl⟩
  rw [this]
theorem idxR_none {p : Int → Bool} {x : ByteArray} (ho : ∀ i, i < x.size → p ((x.get! i).toNat : Int) = false) : idxR p x = -1 := by
  unfold idxR
  have : (List.range x.size).find? (fun i => p ((x.get! i).toNat : Int)) = none := by
    rw [List.find?_eq_none]
    intro i hi
    rw [ho i (List.mem_range.1 hi)]; simp
  rw [this]
theorem indexFunc_spec (g : Nat) (p : Int → Bool) (x : ByteArray) (w : World) (hp : ∀ w' (r : Int), CallsE Tryz.prog g #[.int .i32 r] w' (RetV w' (.bool (p r)))) (hh : ∀ r : Int, 128 ≤ r → p r = true) :
    CallsE Tryz.prog 135 #[.string x, .func (.func g) #[] #[], .bool true] w (RetV w (.int .i64 (idxR p x))) := by
  refine enter (X := cx 21) (cxg _) (args := [.string x, .func (.func g) #[] #[], .bool true]) [.tmp 6] Tryz.func135 rfl rfl rfl rfl rfl ?_
  refine rangeSt (cxg _) rfl rfl fun b => ?_
  refine NeedL.mk Nat (fun _ => [(1, .v (.func (.func g) #[] #[])), (2, .v (.bool true)), (10, .v (.pointer (some ⟨b, 0, none⟩)))]) (fun k => [.hp (Hp.whole w), .hp (Hp.one b (.stringIter x k))])
    (fun k => k ≤ x.size ∧ ∀ i, i < k → p ((x.get! i).toNat : Int) = false) (fun k => x.size - k) 0 ⟨Nat.zero_le _, fun i hi => by omega⟩ (Ent.mk (fun _ _ h => h) rfl rfl) ?_
  rintro k ⟨hk, ho⟩
  refine nextSt (i := 1) rfl (fun hlt => ?_) (fun hge => ?_)
  · obtain ⟨r, hr⟩ : ∃ r : Int, r = ((Utf8.decode x k).1 : Nat) := ⟨_, rfl⟩
    refine callV (.bool (p r)) (fun w' hm => by rw [hr]; exact hp w' _) ?_
    refine qEqB ?_
    have hb : 128 ≤ (x.get! k).toNat → p r = true := fun h => hh r (by have := Dw.decode_high (x := x) (i := k) h; omega)
    have hl : (x.get! k).toNat < 128 → Utf8.decode x k = ((x.get! k).toNat, 1) := Dw.decode_low
    refine bsplit (fun h => ?_) (fun h => ?_)
    · have hpr : p r = true := by simpa using h
      have : p ((x.get! k).toNat : Int) = true := by
        rcases Nat.lt_or_ge (x.get! k).toNat 128 with h1 | h1
        · rw [hl h1] at hr; rw [← hr]; exact hpr
        · exact hh _ (by omega)
      exact ⟨[], ⟨by rw [idxR_hit hlt ho this], rfl⟩, fun w' h => h.pick [0] rfl rfl⟩
    · have hpr : p r = false := by simpa using h
      have h1 : (x.get! k).toNat < 128 := by
        rcases Nat.lt_or_ge (x.get! k).toNat 128 with h1 | h1
        · exact h1
        · rw [hb h1] at hpr; cases hpr
      rw [hl h1] at hr ⊢
      have hr' : r = ((x.get! k).toNat : Int) := hr
      rw [hr'] at hpr
      exact ⟨k + 1, ⟨by omega, fun i hi => by
        rcases Nat.lt_or_ge i k with h2 | h2
        · exact ho i h2
        · have : i = k := by omega
          subst this; exact hpr⟩, by omega, Ent.mk (fun _ _ h => h) rfl rfl⟩
  · exact ⟨[], ⟨by rw [idxR_none fun i hi => ho i (by omega)], rfl⟩, fun w' h => h.pick [0] rfl rfl⟩
theorem strIndexFunc_spec (g : Nat) (p : Int → Bool) (x : ByteArray) (w : World) (hp : ∀ w' (r : Int), CallsE Tryz.prog g #[.int .i32 r] w' (RetV w' (.bool (p r)))) (hh : ∀ r : Int, 128 ≤ r → p r = true) :
    CallsE Tryz.prog 108 #[.string x, .func (.func g) #[] #[]] w (RetV w (.int .i64 (idxR p x))) := by
  refine enter (X := cx 8) (cxg _) (args := [.string x, .func (.func g) #[] #[]]) [.tmp 4] Tryz.func108 rfl rfl rfl rfl rfl ?_
  refine callV _ (fun w' _ => indexFunc_spec g p x w' hp hh) ?_
  exact ⟨[], ⟨rfl, rfl⟩, fun w' h => h⟩
theorem idxR_has (p : Int → Bool) (x : ByteArray) : decide (idxR p x ≥ 0) = (List.range x.size).any fun i => p ((x.get! i).toNat : Int) := by
  unfold idxR
  cases h : (List.range x.size).find? (fun i => p ((x.get! i).toNat : Int)) with
  | none =>
    rw [List.find?_eq_none] at h
    symm
    rw [decide_eq_false (by decide), List.any_eq_false]
    intro i hi; exact h i hi
  | some i =>
    have := List.find?_some h
    have hm := List.mem_of_find?_eq_some h
    dsimp only
    rw [decide_eq_true (by omega)]
    symm
    rw [List.any_eq_true]
    exact ⟨i, hm, this⟩
theorem strContainsFunc_spec (g : Nat) (p : Int → Bool) (x : ByteArray) (w : World) (hp : ∀ w' (r : Int), CallsE Tryz.prog g #[.int .i32 r] w' (RetV w' (.bool (p r)))) (hh : ∀ r : Int, 128 ≤ r → p r = true) :
    CallsE Tryz.prog 62 #[.string x, .func (.func g) #[] #[]] w (RetV w (.bool ((List.range x.size).any fun i => p ((x.get! i).toNat : Int)))) := by
  rw [← idxR_has]
  refine enter (X := cx 9) (cxg _) (args := [.string x, .func (.func g) #[] #[]]) [.tmp 4] Tryz.func62 rfl rfl rfl rfl rfl ?_
  refine callV _ (fun w' _ => strIndexFunc_spec g p x w' hp hh) ?_
  exact ⟨[], ⟨rfl, rfl⟩, fun w' h => h⟩
/-! ### digits -/
theorem puM (M : Nat) (hM : M < 18446744073709551616) : ∀ (l : Byts) (acc : Nat), l.all isDig = true → acc * 10 ^ l.length + dgV l ≤ M → Lib.parseUintM M acc l = .ok (acc * 10 ^ l.length + dgV l)
  | [], acc, _, _ => by
    show Lib.NumEnd.ok acc = .ok (acc * 10 ^ 0 + dgV [])
    congr 1
    simp [dgV, decV]
  | c :: r, acc, h, hle => by
    rw [List.all_cons, Bool.and_eq_true] at h
    have hc := h.1
    unfold isDig at hc
    rw [Bool.and_eq_true, decide_eq_true_eq, decide_eq_true_eq] at hc
    have e : dgV (c :: r) = (c.toNat - 48) * 10 ^ r.length + dgV r := by
      unfold dgV
      have := dec_append [c.toNat - 48] (r.map fun c => c.toNat - 48)
      rw [List.length_map] at this
      rw [List.map_cons]
      show decV ([c.toNat - 48] ++ _) = _
      rw [this]
      simp [decV]
    have e2 : acc * 10 ^ (r.length + 1) + ((c.toNat - 48) * 10 ^ r.length + dgV r) = (acc * 10 + (c.toNat - 48)) * 10 ^ r.length + dgV r := by
      rw [Nat.pow_succ, Nat.add_mul, Nat.mul_comm (10 ^ r.length) 10, ← Nat.mul_assoc]; omega
    have hl : (c :: r).length = r.length + 1 := rfl
    rw [hl, e, e2] at hle ⊢
    have hp : 1 ≤ 10 ^ r.length := Nat.pow_pos (by decide)
    have h3 : (acc * 10 + (c.toNat - 48)) * 1 ≤ (acc * 10 + (c.toNat - 48)) * 10 ^ r.length := Nat.mul_le_mul_left _ hp
    unfold Lib.parseUintM
    rw [if_pos ⟨hc.1, hc.2⟩, if_neg (by omega), if_neg (by omega)]
    exact puM M hM r _ h.2 hle
theorem dgV_lt {l : Byts} (h : l.all isDig = true) : dgV l < 10 ^ l.length := by
  unfold dgV
  have := dec_lt (l := l.map fun c => c.toNat - 48) fun d hd => by
    obtain ⟨c, hc, rfl⟩ := List.mem_map.1 hd
    have := List.all_eq_true.1 h c hc
    unfold isDig at this
    rw [Bool.and_eq_true, decide_eq_true_eq, decide_eq_true_eq] at this
    omega
  rwa [List.length_map] at this
theorem parseUint_spec (s : Byts) (h : s.all isDig = true) (h0 : 0 < s.length) (h9 : s.length ≤ 9) (w : World) : CallsE Tryz.prog 91 #[.string (bs s), .int .i64 10, .int .i64 32] w (RetV w (.tuple #[.int .u64 (dgV s : Nat), .nilIface])) := by
  have hlt := dgV_lt h
  have h10 : 10 ^ s.length ≤ 10 ^ 9 := Nat.pow_le_pow_right (by decide) h9
  have hp := puM (2 ^ 32 - 1) (by decide) s 0 h (by rw [Nat.zero_mul, Nat.zero_add]; omega)
  rw [Nat.zero_mul, Nat.zero_add] at hp
  have hu : Lib.parseUintB 32 (bs s).data.toList = .ok (dgV s) := by
    rw [bs_data]; unfold Lib.parseUintB
    rw [if_neg (by intro e; rw [e] at h0; cases h0)]
    exact hp
  have hcon := Any.strconv_ParseUint_10_at32_ok Tryz.lPu (bs s) (by rw [bs_size]; omega) (dgV s) hu w
  change Calls Tryz.prog 91 _ _ _ at hcon
  refine callsLib (enters_of Tryz.func91 (by kernel_rfl) rfl _) hcon ?_
  rintro e w' ⟨rfl, hw⟩
  rcases hw with rfl | rfl
  · exact ⟨rfl, Below.refl _ _, Nat.le_refl _⟩
  · refine ⟨rfl, ?_, ?_⟩
    · exact Lib.below_freeze ((Below.refl w.heap.size w).drew.alloc (Nat.le_refl _) _) (Nat.le_refl _) _
    · unfold Lib.bytesWorld World.freeze
      split
      · exact Nat.le_succ _
      · exact Nat.le_succ _
/-! ### Trim -/
theorem dropW_nil {f : UInt8 → Bool} : ∀ {l : Byts}, l.dropWhile f = [] ↔ l.all f = true
  | [] => by simp
  | c :: l => by
    rw [List.dropWhile_cons, List.all_cons]
    by_cases h : f c = true
    · rw [if_pos h, h, Bool.true_and]; exact dropW_nil
    · rw [if_neg h]
      constructor
      · intro g; cases g
      · intro g; rw [Bool.and_eq_true] at g; exact absurd g.1 h
theorem trim_nil {l cs : Byts} : Lib.trimS l cs = [] ↔ l.all (fun c => cs.contains c) = true := by
  unfold Lib.trimS Lib.trimLeftS
  rw [dropW_nil]
  unfold Lib.trimRightS
  rw [List.all_reverse]
  constructor
  · intro h
    have h2 : (l.reverse.dropWhile fun c => cs.contains c) = [] := by
      cases hd : l.reverse.dropWhile (fun c => cs.contains c) with
      | nil => rfl
      | cons c r =>
        have hn : cs.contains c = false := by
          have := List.head?_dropWhile_not (fun c => cs.contains c) l.reverse
          rw [hd] at this
          simpa using this
        rw [hd] at h
        rw [List.all_cons, hn] at h
        cases h
    rw [dropW_nil, List.all_reverse] at h2
    exact h2
  · intro h
    rw [← List.all_reverse, ← dropW_nil] at h
    rw [h]; rfl
theorem trim2_spec (s cs : Byts) (hs : s.length < 1000000) (h2 : 2 ≤ cs.length) (hcs : cs.length < 1000) (ha : cs.all (fun b => decide (b.toNat < 128)) = true) (w : World) : CallsE Tryz.prog 132 #[.string (bs s), .string (bs cs)] w (RetV w (.string (bs (Lib.trimS s cs)))) := by
  have he := enters_of (args := #[.string (bs s), .string (bs cs)]) Tryz.func132 (by kernel_rfl) rfl
  by_cases h0 : s.length = 0
  · have hcon := Any.strings_Trim_empty Tryz.lTr (bs s) (bs cs) w (.inl (by rw [bs_size]; exact h0))
    change Calls Tryz.prog 132 _ _ _ at hcon
    refine callsLib he hcon ?_
    rintro e w' ⟨rfl, rfl⟩
    have : s = [] := List.eq_nil_of_length_eq_zero h0
    subst this
    exact ⟨rfl, Below.refl _ _, Nat.le_refl _⟩
  · have h116 : (Tryz.prog.info? (Tryz.lTr_ren.t 116)).map (fun i => (i.zero, i.size)) = some (some (.agg (Array.replicate 256 (.bool false))), 256) := by kernel_rfl
    have hcon := Any.strings_Trim_set Tryz.lTr (zero_of_info h116).1 (zero_of_info h116).2 (bs s) (bs cs) w (by rw [bs_size]; exact h2) (by rw [bs_size]; omega) (by rw [bs_size]; omega) (by rw [bs_size]; omega) (by rw [bs_data]; exact ascii_of_all ha)
    change Calls Tryz.prog 132 _ _ _ at hcon
    refine callsLib he hcon ?_
    rintro e w' ⟨rfl, q, rfl⟩
    refine ⟨rfl, ?_, ?_⟩
    · exact (((Below.refl _ _).alloc (Nat.le_refl _) _).alloc (by simp) _).trans ⟨rfl, rfl, rfl, Nat.le_refl _, fun _ _ => rfl⟩
    · exact Nat.le_add_right _ _
theorem trim1_spec (s : Byts) (c : UInt8) (hs : s.length < 1000000) (ha : c.toNat < 128) (w : World) : CallsE Tryz.prog 132 #[.string (bs s), .string (bs [c])] w (RetV w (.string (bs (Lib.trimS s [c])))) := by
  have he := enters_of (args := #[.string (bs s), .string (bs [c])]) Tryz.func132 (by kernel_rfl) rfl
  have hcon := Any.strings_Trim_one Tryz.lTr (bs s) c ha w (by rw [bs_size]; omega)
  change Calls Tryz.prog 132 _ _ _ at hcon
  refine callsLib he hcon ?_
  rintro e w' ⟨rfl, hw⟩
  rw [Lib.trimS_one]
  rcases hw with rfl | rfl
  · exact ⟨rfl, Below.refl _ _, Nat.le_refl _⟩
  · exact ⟨rfl, (Below.refl _ _).drew, Nat.le_succ _⟩
end Go.Proofs.YtoholjdojdmbkaaGreatDoor
namespace Go.Dw
open Go Go.RowKit
theorem qRemP {P : Program} {s : List Ch} {ty : Nat} (a b : Nat) {k : IntKind} {x y : Int} (hx : x = a) (hy : y = b) (hb : 0 < b) {q : TV → Prop} (h : q (.v (.int k ((a % b : Nat) : Int)))) : NeedQ P s (binOp .rem ty (.int k x) (.int k y)) q := by
  subst hx hy
  refine ⟨_, fun w _ => ?_, h⟩
  have h0 : ¬ b = 0 := by omega
  rw [Int.natCast_emod]
  simp [binOp, Op.intDiv, h0]
  exact Int.tmod_eq_emod_of_nonneg (Int.natCast_nonneg _)
end Go.Dw
namespace Go.Proofs.YtoholjdojdmbkaaGreatDoor
open Go Go.RowKit Go.Dw
theorem preB_one (s : Byts) (c : UInt8) : preB s [c] = (decide (s.getD 0 0 = c) && decide (0 < s.length)) := by
  cases s with
  | nil => unfold preB; simp
  | cons d r =>
    unfold preB
    rw [Bool.eq_iff_iff]
    simp
theorem cutMinus_spec (s : Byts) (w : World) : CallsE Tryz.prog 89 #[.string (bs s), .string (bs [45])] w (RetV w (.tuple #[.string (bs (sgnD s)), .bool (sgnB s)])) := by
  have h := cutPrefix_spec s [45] w
  have e : preB s [45] = sgnB s := preB_one s 45
  rw [e] at h
  exact h
theorem any_bs (f : UInt8 → Bool) (l : Byts) : ((List.range (bs l).size).any fun i => f ((bs l).get! i)) = l.any f := by
  rw [Bool.eq_iff_iff, List.any_eq_true, List.any_eq_true]
  constructor
  · rintro ⟨i, hi, h⟩
    have hi : i < l.length := by rw [← bs_size]; exact List.mem_range.1 hi
    rw [bs_get hi] at h
    exact ⟨_, List.getElem_mem hi, h⟩
  · rintro ⟨c, hc, h⟩
    obtain ⟨i, hi, rfl⟩ := List.mem_iff_getElem.1 hc
    exact ⟨i, List.mem_range.2 (by rw [bs_size]; exact hi), by rw [bs_get hi]; exact h⟩
def noDig (r : Int) : Bool := decide (r < 48) || decide (r > 57)
theorem noDig_byte (c : UInt8) : noDig (c.toNat : Int) = !isDig c := by
  unfold noDig isDig
  rw [Bool.eq_iff_iff]
  simp
  omega
theorem parse1_spec (r : Int) (w : World) : CallsE Tryz.prog 90 #[.int .i32 r] w (RetV w (.bool (noDig r))) := by
  refine enter (X := cx 9) (cxg _) (args := [.int .i32 r]) [.tmp 2] Tryz.func90 rfl rfl rfl rfl rfl ?_
  refine bsplitd (fun h1 => ?_) (fun h1 => ?_)
  · exact ⟨[], ⟨by unfold noDig; rw [decide_eq_true h1]; rfl, rfl⟩, fun w' h => h.pick [0] rfl rfl⟩
  · exact ⟨[], ⟨by unfold noDig; rw [decide_eq_false h1]; rfl, rfl⟩, fun w' h => h.pick [0] rfl rfl⟩
theorem contains_dig (s : Byts) (w : World) : CallsE Tryz.prog 62 #[.string (bs s), .func (.func 90) #[] #[]] w (RetV w (.bool (s.any fun c => !isDig c))) := by
  have h := strContainsFunc_spec 90 noDig (bs s) w (fun w' r => parse1_spec r w') (fun r hr => by unfold noDig; rw [decide_eq_true (show r > 57 by omega), Bool.or_true])
  have e : ((List.range (bs s).size).any fun i => noDig (((bs s).get! i).toNat : Int)) = s.any fun c => !isDig c := by
    rw [← any_bs]
    congr 1
    funext i
    exact noDig_byte _
  rw [e] at h
  exact h
theorem dgV_append (a b : Byts) : dgV (a ++ b) = dgV a * 10 ^ b.length + dgV b := by
  unfold dgV
  rw [List.map_append, dec_append, List.length_map]
theorem dgV_pos {l : Byts} (h : l.all isDig = true) (h0 : 0 < l.length) (h1 : l.getD 0 0 ≠ 48) : 0 < dgV l := by
  unfold dgV
  refine dec_pos (fun d hd => ?_) (by rw [List.length_map]; exact h0) ?_
  · obtain ⟨c, hc, rfl⟩ := List.mem_map.1 hd
    have := List.all_eq_true.1 h c hc
    unfold isDig at this
    rw [Bool.and_eq_true, decide_eq_true_eq, decide_eq_true_eq] at this
    omega
  · cases l with
    | nil => cases h0
    | cons c r =>
      have hc := List.all_eq_true.1 h c (by simp)
      unfold isDig at hc
      rw [Bool.and_eq_true, decide_eq_true_eq, decide_eq_true_eq] at hc
      intro e
      have e : c.toNat - 48 = 0 := e
      apply h1
      show c = 48
      apply UInt8.toNat_inj.1
      show c.toNat = 48
      omega
theorem mag_nil (h : Hp) : Mag h (.slice none 0 0) 0 := ⟨_, _, _, [], rfl, Sl.nil _ _ _ _ _, Can.nil, by simp⟩
/-- what Parse returns -/
def ParR (s : Byts) (g : Hp) (v : Value) : Prop := ∃ neg a n c m, v = .tuple #[intV neg a n c, .int .i64 (parE s)] ∧ Mag g (.slice a n c) m ∧ (neg = true → 0 < m) ∧ (parE s = 0 → neg = sgnB s ∧ m = dgV (sgnD s)) ∧ (parE s ≠ 0 → neg = false ∧ m = 0)
theorem parR_err {s : Byts} (h : parE s ≠ 0) (g : Hp) : ParR s g (.tuple #[intV false none 0 0, .int .i64 (parE s)]) :=
  ⟨false, none, 0, 0, 0, rfl, mag_nil g, nofun, fun e => absurd e h, fun _ => ⟨rfl, rfl⟩⟩
set_option maxRecDepth 10000 in
theorem intParse_spec (s : Byts) (hs : s.length < 1000000000) (w : World) :
    CallsE Tryz.prog 51 #[.string (bs s)] w (Ret w fun v cs => ∃ g, cs = [.hp g] ∧ ParR s g v) := by
  have hsz := bs_size s
  refine enter (X := cx 71) (cxg _) (args := [.string (bs s)]) [.cell 2 54, .tmp 3] Tryz.func51 rfl rfl rfl rfl rfl ?_
  intro b2
  refine bsplitd (fun h1 => ?_) (fun h1 => ?_)
  · have e : parE s = 5 := by unfold parE; rw [if_pos (by omega)]
    exact ⟨[.hp Hp.emp], ⟨_, rfl, by have := parR_err (s := s) (by rw [e]; decide) Hp.emp; rw [e] at this; exact this⟩, fun w' h => (h.pick [0] rfl rfl).emp⟩
  · refine callV _ (fun w' hm => cutMinus_spec s w') ?_
    generalize hD : sgnD s = D
    generalize hB : sgnB s = B
    have hDl : D.length ≤ s.length := by rw [← hD]; unfold sgnD; split <;> simp
    have hDz := bs_size D
    refine qEqL (b := []) ?_
    refine bsplitd (fun h2 => ?_) (fun h2 => ?_)
    · have e : parE s = 14 := by unfold parE; rw [if_neg (by omega), hD, if_pos (.inl h2)]
      exact ⟨[.hp Hp.emp], ⟨_, rfl, by have := parR_err (s := s) (by rw [e]; decide) Hp.emp; rw [e] at this; exact this⟩, fun w' h => (h.pick [0] rfl rfl).emp⟩
    · refine callV _ (fun w' hm => contains_dig D w') ?_
      refine bsplit (fun h3 => ?_) (fun h3 => ?_)
      · have e : parE s = 14 := by unfold parE; rw [if_neg (by omega), hD, if_pos (.inr h3)]
        exact ⟨[.hp Hp.emp], ⟨_, rfl, by have := parR_err (s := s) (by rw [e]; decide) Hp.emp; rw [e] at this; exact this⟩, fun w' h => (h.pick [0] rfl rfl).emp⟩
      · have hall : D.all isDig = true := by
          rw [List.all_eq_true]
          intro c hc
          have := List.any_eq_false.1 h3 c hc
          simpa using this
        have hE : parE s = if D.getD 0 0 = 48 ∧ (1 < D.length ∨ B = true) then 3 else 0 := by
          have hno : ¬ (sgnD s = [] ∨ (sgnD s).any (fun c => !isDig c) = true) := by
            rw [hD, h3]
            intro g
            rcases g with g | g
            · exact h2 g
            · cases g
          unfold parE
          rw [if_neg (by omega), if_neg hno, hD, hB]
        have h0 : 0 < D.length := List.length_pos_iff.2 h2
        refine qIdxL (cxg _) rfl rfl 0 rfl h0 ?_
        refine bsplitd (fun h5 => ?_) (fun h5 => ?_)
        · have h5 : D.getD 0 0 = 48 := UInt8.toNat_inj.1 (by show (D.getD 0 0).toNat = 48; omega)
          refine bsplitd (fun h6 => ?_) (fun h6 => ?_)
          · have e : parE s = 3 := by rw [hE, if_pos ⟨h5, .inl (by omega)⟩]
            exact ⟨[.hp Hp.emp], ⟨_, rfl, by have := parR_err (s := s) (by rw [e]; decide) Hp.emp; rw [e] at this; exact this⟩, fun w' h => (h.pick [0] rfl rfl).emp⟩
          · refine bsplit (fun h7 => ?_) (fun h7 => ?_)
            · have e : parE s = 3 := by rw [hE, if_pos ⟨h5, .inr h7⟩]
              exact ⟨[.hp Hp.emp], ⟨_, rfl, by have := parR_err (s := s) (by rw [e]; decide) Hp.emp; rw [e] at this; exact this⟩, fun w' h => (h.pick [0] rfl rfl).emp⟩
            · have he : parE s = 0 := by
                rw [hE, if_neg]
                intro g
                rcases g.2 with g | g
                · omega
                · rw [h7] at g; cases g
              have hneg : B = true → 0 < dgV D := fun g => by rw [h7] at g; cases g
              refine NeedL.mk (Nat × (Option Addr × Nat × Nat) × List Nat × Hp) (fun g => [(2, .bx 1 0), (4, .v (.string (bs (D.drop g.1)))), (5, .v (.bool B)), (6, .v (.slice g.2.1.1 g.2.1.2.1 g.2.1.2.2))]) (fun g => [.hp (Hp.whole w), .box b2 [.bool false, .slice none 0 0] 54, .hp g.2.2.2])
                (fun g => g.1 ≤ D.length ∧ Sl (encF fW) 1 g.2.2.2 g.2.1.1 g.2.1.2.1 g.2.1.2.2 g.2.2.1 ∧ Can g.2.2.1 (dgV (D.take g.1)) ∧ g.2.2.1.length ≤ g.1) (fun g => D.length - g.1) (0, (none, 0, 0), [], Hp.emp) ⟨Nat.zero_le _, Sl.nil _ _ _ _ _, Can.nil, Nat.le_refl _⟩ (Ent.mk (fun _ _ h => h.emp) rfl rfl) ?_
              rintro ⟨k, ⟨ax, nx, cx'⟩, L, G⟩ ⟨hk, hL, hC, hLl⟩
              dsimp only at *
              have hrl := bs_size (D.drop k)
              rw [List.length_drop] at hrl
              refine bsplitd (fun h8 => ?_) (fun h8 => ?_)
              · have hk' : k < D.length := by omega
                obtain ⟨n, hn⟩ : ∃ n, n = (D.length - k - 1) % 9 + 1 := ⟨_, rfl⟩
                have hn9 : n ≤ 9 := by omega
                have hnk : k + n ≤ D.length := by omega
                refine nw (by omega) (by omega) ?_
                refine qRemP (D.length - k - 1) 9 (by omega) rfl (by decide) ?_
                refine nwEq (y := ((n : Nat) : Int)) (by omega) (by omega) (by omega) ?_
                refine NeedL.mk (Nat × Int) (fun g => [(2, .bx 1 0), (4, .v (.string (bs (D.drop k)))), (5, .v (.bool B)), (6, .v (.slice ax nx cx')), (7, .v (.int .i64 n)), (8, .v (.int .u32 ((10 ^ g.1 : Nat) : Int))), (47, .v (.int .i64 n)), (48, .v (.int .i64 g.2))]) (fun _ => [.hp (Hp.whole w), .box b2 [.bool false, .slice none 0 0] 54, .hp G])
                  (fun g => g.1 ≤ n ∧ g.2 = g.1) (fun g => n - g.1) (0, 0) ⟨Nat.zero_le _, rfl⟩ (Ent.mk (fun _ _ h => h) rfl rfl) ?_
                rintro ⟨j, zj⟩ ⟨hj, hzj⟩
                dsimp only at *
                have hpj : 10 ^ j ≤ 10 ^ 9 := Nat.pow_le_pow_right (by decide) (by omega)
                refine bsplitd (fun h9 => ?_) (fun h9 => ?_)
                · have hpj1 : 10 ^ (j + 1) ≤ 10 ^ 9 := Nat.pow_le_pow_right (by decide) (by omega)
                  refine nw32Eq (10 ^ (j + 1)) (by rw [Nat.pow_succ]; simp) (by omega) ?_
                  refine nw (by omega) (by omega) ?_
                  exact ⟨(j + 1, zj + 1), ⟨by dsimp only; omega, by dsimp only; omega⟩, by dsimp only; omega, Ent.mk (fun _ _ h => h) rfl rfl⟩
                · have hjn : j = n := by omega
                  subst hjn
                  have hgl : ((D.drop k).take j).length = j := by rw [List.length_take, List.length_drop]; omega
                  have hga : ((D.drop k).take j).all isDig = true := by
                    rw [List.all_eq_true] at hall ⊢
                    exact fun c hc => hall c (List.mem_of_mem_drop (List.mem_of_mem_take hc))
                  have hgv := dgV_lt hga
                  rw [hgl] at hgv
                  refine qSub (cxg _) rfl rfl 0 j (.inl ⟨rfl, rfl⟩) (.inr ⟨_, _, rfl, rfl⟩) (by omega) (by rw [List.length_drop]; omega) ?_
                  rw [List.drop_zero]
                  refine callV _ (fun w' hm => parseUint_spec ((D.drop k).take j) hga (by omega) (by omega) w') ?_
                  refine nw32Eq (dgV ((D.drop k).take j)) rfl (by omega) ?_
                  refine call (fun w' hm => scale_spec w' (10 ^ j) (dgV ((D.drop k).take j)) (hL.mono (encF_mono _) (hm 2 _ rfl)) hC (by omega) (by unfold Bs; omega) (by unfold Bs; omega)) ?_
                  rintro _ _ ⟨g, a', n', c', L', rfl, rfl, hL', hC', hl'⟩
                  refine qSub (cxg _) rfl rfl j (D.drop k).length (.inr ⟨_, _, rfl, rfl⟩) (.inl ⟨rfl, rfl⟩) (by rw [List.length_drop]; omega) (Nat.le_refl _) ?_
                  rw [List.take_length, List.drop_drop]
                  have et : dgV (D.take k) * 10 ^ j + dgV ((D.drop k).take j) = dgV (D.take (k + j)) := by
                    rw [List.take_add, dgV_append, hgl]
                  rw [et] at hC'
                  exact ⟨(k + j, (a', n', c'), L', g), ⟨by dsimp only; omega, hL', hC', by dsimp only; omega⟩, by dsimp only; omega, Ent.mk (fun _ _ h => h.pick [0, 1, 3] rfl rfl) rfl rfl⟩
              · have hkl : k = D.length := by omega
                subst hkl
                rw [List.take_length] at hC
                refine callV _ (fun w' hm => signed_spec B w' (hL.mono (encF_mono _) (hm 2 _ rfl)) (by omega)) ?_
                rw [hC.trN]
                have hb : (B && decide (0 < L.length)) = B := by
                  cases hBB : B with
                  | false => rfl
                  | true =>
                    have := hneg hBB
                    rw [decide_eq_true (Nat.pos_of_ne_zero fun e => by
                      have := hC.zero.2 (List.eq_nil_of_length_eq_zero e); omega)]; rfl
                rw [hb]
                have hLn := hL.len
                subst hLn
                exact ⟨[.hp G], ⟨G, rfl, B, ax, L.length, cx', dgV D, by rw [he]; rfl, ⟨_, _, _, L, rfl, hL, hC, by omega⟩, hneg, fun _ => ⟨by rw [hB], by rw [hD]⟩, fun g => absurd he g⟩, fun w' h => h.pick [0, 2] rfl rfl⟩
        · have h5 : ¬ D.getD 0 0 = 48 := fun g => h5 (by rw [g]; rfl)
          have he : parE s = 0 := by rw [hE, if_neg (fun g => h5 g.1)]
          have hneg : B = true → 0 < dgV D := fun _ => dgV_pos hall h0 h5
          refine NeedL.mk (Nat × (Option Addr × Nat × Nat) × List Nat × Hp) (fun g => [(2, .bx 1 0), (4, .v (.string (bs (D.drop g.1)))), (5, .v (.bool B)), (6, .v (.slice g.2.1.1 g.2.1.2.1 g.2.1.2.2))]) (fun g => [.hp (Hp.whole w), .box b2 [.bool false, .slice none 0 0] 54, .hp g.2.2.2])
            (fun g => g.1 ≤ D.length ∧ Sl (encF fW) 1 g.2.2.2 g.2.1.1 g.2.1.2.1 g.2.1.2.2 g.2.2.1 ∧ Can g.2.2.1 (dgV (D.take g.1)) ∧ g.2.2.1.length ≤ g.1) (fun g => D.length - g.1) (0, (none, 0, 0), [], Hp.emp) ⟨Nat.zero_le _, Sl.nil _ _ _ _ _, Can.nil, Nat.le_refl _⟩ (Ent.mk (fun _ _ h => h.emp) rfl rfl) ?_
          rintro ⟨k, ⟨ax, nx, cx'⟩, L, G⟩ ⟨hk, hL, hC, hLl⟩
          dsimp only at *
          have hrl := bs_size (D.drop k)
          rw [List.length_drop] at hrl
          refine bsplitd (fun h8 => ?_) (fun h8 => ?_)
          · have hk' : k < D.length := by omega
            obtain ⟨n, hn⟩ : ∃ n, n = (D.length - k - 1) % 9 + 1 := ⟨_, rfl⟩
            have hn9 : n ≤ 9 := by omega
            have hnk : k + n ≤ D.length := by omega
            refine nw (by omega) (by omega) ?_
            refine qRemP (D.length - k - 1) 9 (by omega) rfl (by decide) ?_
            refine nwEq (y := ((n : Nat) : Int)) (by omega) (by omega) (by omega) ?_
            refine NeedL.mk (Nat × Int) (fun g => [(2, .bx 1 0), (4, .v (.string (bs (D.drop k)))), (5, .v (.bool B)), (6, .v (.slice ax nx cx')), (7, .v (.int .i64 n)), (8, .v (.int .u32 ((10 ^ g.1 : Nat) : Int))), (47, .v (.int .i64 n)), (48, .v (.int .i64 g.2))]) (fun _ => [.hp (Hp.whole w), .box b2 [.bool false, .slice none 0 0] 54, .hp G])
              (fun g => g.1 ≤ n ∧ g.2 = g.1) (fun g => n - g.1) (0, 0) ⟨Nat.zero_le _, rfl⟩ (Ent.mk (fun _ _ h => h) rfl rfl) ?_
            rintro ⟨j, zj⟩ ⟨hj, hzj⟩
            dsimp only at *
            have hpj : 10 ^ j ≤ 10 ^ 9 := Nat.pow_le_pow_right (by decide) (by omega)
            refine bsplitd (fun h9 => ?_) (fun h9 => ?_)
            · have hpj1 : 10 ^ (j + 1) ≤ 10 ^ 9 := Nat.pow_le_pow_right (by decide) (by omega)
              refine nw32Eq (10 ^ (j + 1)) (by rw [Nat.pow_succ]; simp) (by omega) ?_
              refine nw (by omega) (by omega) ?_
              exact ⟨(j + 1, zj + 1), ⟨by dsimp only; omega, by dsimp only; omega⟩, by dsimp only; omega, Ent.mk (fun _ _ h => h) rfl rfl⟩
            · have hjn : j = n := by omega
              subst hjn
              have hgl : ((D.drop k).take j).length = j := by rw [List.length_take, List.length_drop]; omega
              have hga : ((D.drop k).take j).all isDig = true := by
                rw [List.all_eq_true] at hall ⊢
                exact fun c hc => hall c (List.mem_of_mem_drop (List.mem_of_mem_take hc))
              have hgv := dgV_lt hga
              rw [hgl] at hgv
              refine qSub (cxg _) rfl rfl 0 j (.inl ⟨rfl, rfl⟩) (.inr ⟨_, _, rfl, rfl⟩) (by omega) (by rw [List.length_drop]; omega) ?_
              rw [List.drop_zero]
              refine callV _ (fun w' hm => parseUint_spec ((D.drop k).take j) hga (by omega) (by omega) w') ?_
              refine nw32Eq (dgV ((D.drop k).take j)) rfl (by omega) ?_
              refine call (fun w' hm => scale_spec w' (10 ^ j) (dgV ((D.drop k).take j)) (hL.mono (encF_mono _) (hm 2 _ rfl)) hC (by omega) (by unfold Bs; omega) (by unfold Bs; omega)) ?_
              rintro _ _ ⟨g, a', n', c', L', rfl, rfl, hL', hC', hl'⟩
              refine qSub (cxg _) rfl rfl j (D.drop k).length (.inr ⟨_, _, rfl, rfl⟩) (.inl ⟨rfl, rfl⟩) (by rw [List.length_drop]; omega) (Nat.le_refl _) ?_
              rw [List.take_length, List.drop_drop]
              have et : dgV (D.take k) * 10 ^ j + dgV ((D.drop k).take j) = dgV (D.take (k + j)) := by
                rw [List.take_add, dgV_append, hgl]
              rw [et] at hC'
              exact ⟨(k + j, (a', n', c'), L', g), ⟨by dsimp only; omega, hL', hC', by dsimp only; omega⟩, by dsimp only; omega, Ent.mk (fun _ _ h => h.pick [0, 1, 3] rfl rfl) rfl rfl⟩
          · have hkl : k = D.length := by omega
            subst hkl
            rw [List.take_length] at hC
            refine callV _ (fun w' hm => signed_spec B w' (hL.mono (encF_mono _) (hm 2 _ rfl)) (by omega)) ?_
            rw [hC.trN]
            have hb : (B && decide (0 < L.length)) = B := by
              cases hBB : B with
              | false => rfl
              | true =>
                have := hneg hBB
                rw [decide_eq_true (Nat.pos_of_ne_zero fun e => by
                  have := hC.zero.2 (List.eq_nil_of_length_eq_zero e); omega)]; rfl
            rw [hb]
            have hLn := hL.len
            subst hLn
            exact ⟨[.hp G], ⟨G, rfl, B, ax, L.length, cx', dgV D, by rw [he]; rfl, ⟨_, _, _, L, rfl, hL, hC, by omega⟩, hneg, fun _ => ⟨by rw [hB], by rw [hD]⟩, fun g => absurd he g⟩, fun w' h => h.pick [0, 2] rfl rfl⟩
end Go.Proofs.YtoholjdojdmbkaaGreatDoor
namespace Go.Proofs.YtoholjdojdmbkaaGreatDoor
open Go Go.RowKit Go.Dw
theorem ten_dig (c : UInt8) : ([48, 49, 50, 51, 52, 53, 54, 55, 56, 57] : Byts).contains c = isDig c := by
  have h : ∀ n : Fin 256, ([48, 49, 50, 51, 52, 53, 54, 55, 56, 57] : Byts).contains (UInt8.ofNat n.1) = isDig (UInt8.ofNat n.1) := by decide +kernel
  have := h ⟨c.toNat, c.toNat_lt⟩
  rwa [show UInt8.ofNat c.toNat = c from UInt8.ofNat_toNat] at this
theorem digits_spec (s : Byts) (hs : s.length < 1000000) (w : World) : CallsE Tryz.prog 130 #[.string (bs s)] w (RetV w (.bool (digF s))) := by
  refine enter (X := cx 10) (cxg _) (args := [.string (bs s)]) [.tmp 2] Tryz.func130 rfl rfl rfl rfl rfl ?_
  refine qNeL (b := []) ?_
  refine bsplitd (fun h1 => ?_) (fun h1 => ?_)
  · refine callV _ (fun w' hm => trim2_spec s [48, 49, 50, 51, 52, 53, 54, 55, 56, 57] hs (by decide) (by decide) (by decide) w') ?_
    refine qEqL (b := []) ?_
    refine ⟨[], ⟨?_, rfl⟩, fun w' h => h.pick [0] rfl rfl⟩
    congr 1
    unfold digF
    rw [decide_eq_true h1, Bool.true_and, Bool.eq_iff_iff, decide_eq_true_eq, trim_nil]
    rw [show (fun c => ([48, 49, 50, 51, 52, 53, 54, 55, 56, 57] : Byts).contains c) = isDig from funext ten_dig]
  · exact ⟨[], ⟨by unfold digF; rw [decide_eq_false h1]; rfl, rfl⟩, fun w' h => h.pick [0] rfl rfl⟩
theorem can_one : Can [1] 1 := by
  refine ⟨fun d hd => ?_, fun k h1 h2 => ?_, by simp [valL]⟩
  · rw [List.mem_singleton] at hd; rw [hd]; decide
  · have : k = 0 := by simp at h2; omega
    subst this; decide
theorem one_spec (w : World) : CallsE Tryz.prog 133 #[] w (Ret w fun v cs => ∃ g a n c, cs = [.hp g] ∧ v = intV false a n c ∧ Mag g (.slice a n c) 1) := by
  refine enter (X := cx 2) (cxg _) (args := []) [.cell 0 54] Tryz.func133 rfl rfl rfl rfl rfl ?_
  intro b0
  refine call (fun w' hm => from_spec 1 (by decide) (by decide) w') ?_
  rintro _ _ ⟨g, a, n, c, L, rfl, rfl, hL, hC⟩
  exact ⟨[.hp g], ⟨_, _, _, _, rfl, rfl, _, _, _, L, rfl, hL, hC, by have := hC.le_len can_one (Nat.le_refl _); simp at this; omega⟩, fun w' h => h.pick [0, 2] rfl rfl⟩
theorem compareM_spec {g1 g2 : Bool} {a1 a2 : Option Addr} {n1 c1 n2 c2 x y : Nat} (w : World) (ha : Mag (Hp.whole w) (.slice a1 n1 c1) x) (hb : Mag (Hp.whole w) (.slice a2 n2 c2) y) (p1 : g1 = true → 0 < x) (p2 : g2 = true → 0 < y) :
    CallsE Tryz.prog 117 #[intV g1 a1 n1 c1, intV g2 a2 n2 c2] w (RetV w (.int .i64 (ordZ (intZ g1 x) (intZ g2 y)))) := by
  obtain ⟨_, _, _, La, e1, h1, h2, h3⟩ := ha
  obtain ⟨_, _, _, Lb, e2, k1, k2, k3⟩ := hb
  cases e1; cases e2
  exact icompare_spec w h1 k1 h2 k2 (by omega) (by omega) p1 p2
theorem ord_one (y : Nat) : (ordZ (intZ false y) (intZ false 1) = 0) ↔ y = 1 := by
  unfold ordZ intZ
  simp only [Bool.false_eq_true, if_false]
  constructor
  · intro h
    split at h
    · cases h
    · split at h
      · cases h
      · omega
  · rintro rfl
    rw [if_neg (by omega), if_neg (by omega)]
theorem trimMinus_spec (s : Byts) (w : World) : CallsE Tryz.prog 131 #[.string (bs s), .string (bs [45])] w (RetV w (.string (bs (sgnD s)))) := by
  have h := trimPrefix_spec s [45] w
  have e : preB s [45] = sgnB s := preB_one s 45
  rw [e] at h
  exact h
theorem sgnD_dig {l : Byts} (h : digF l = true) : sgnB l = false ∧ sgnD l = l ∧ l.all isDig = true ∧ 0 < l.length := by
  unfold digF at h
  rw [Bool.and_eq_true, decide_eq_true_eq] at h
  obtain ⟨h1, h2⟩ := sgn_dig h.2
  exact ⟨h1, h2, h.2, List.length_pos_iff.2 h.1⟩
def ratV (n1 : Bool) (a1 : Option Addr) (k1 c1 : Nat) (n2 : Bool) (a2 : Option Addr) (k2 c2 : Nat) : Value := .agg #[.bool n1, .slice a1 k1 c1, .bool n2, .slice a2 k2 c2]
/-- what reading a rational returns -/
def RatR (most : Nat) (s : Byts) (g : Hp) (v : Value) : Prop := ∃ n1 a1 k1 c1 a2 k2 c2 x y, v = .tuple #[ratV n1 a1 k1 c1 false a2 k2 c2, .int .i64 (reaE most s)] ∧ Mag g (.slice a1 k1 c1) x ∧ Mag g (.slice a2 k2 c2) y ∧ (n1 = true → 0 < x) ∧
  (reaE most s = 0 → n1 = sgnB (cutF s).1 ∧ x = dgV (sgnD (cutF s).1) ∧ y = if (cutF s).2.2 = true then dgV (cutF s).2.1 else 0) ∧ (reaE most s ≠ 0 → n1 = false ∧ x = 0 ∧ y = 0)
theorem ratR_err {most : Nat} {s : Byts} {e : Int} (h : reaE most s = e) (he : e ≠ 0) (g : Hp) : RatR most s g (.tuple #[ratV false none 0 0 false none 0 0, .int .i64 e]) := by
  subst h
  exact ⟨false, none, 0, 0, none, 0, 0, 0, 0, rfl, mag_nil g, mag_nil g, nofun, fun e => absurd e he, fun _ => ⟨rfl, rfl, rfl⟩⟩
theorem parE_nonneg (s : Byts) : parE s ≠ 0 → True := fun _ => trivial
set_option maxRecDepth 10000 in
set_option maxHeartbeats 2000000 in
theorem read_spec (s : Byts) (most : Nat) (hmost : most < 500000) (hs : s.length < 1000000) (w : World) :
    CallsE Tryz.prog 106 #[.string (bs s), .int .i64 most] w (Ret w fun v cs => ∃ g, cs = [.hp g] ∧ RatR most s g v) := by
  have hsz := bs_size s
  have hE : reaE most s = reaE most s := rfl
  conv at hE => rhs; unfold reaE
  rcases hc : cutF s with ⟨top, bot, fl⟩
  have hcl : top.length ≤ s.length ∧ bot.length ≤ s.length := by
    unfold cutF at hc
    split at hc
    · cases hc; exact ⟨by rw [List.length_take]; omega, by rw [List.length_drop]; omega⟩
    · cases hc; simp
  rw [hc] at hE
  dsimp only at hE
  refine enter (X := cx 85) (cxg _) (args := [.string (bs s), .int .i64 most]) [.cell 4 98, .tmp 5] Tryz.func106 rfl rfl rfl rfl rfl ?_
  intro b4
  refine callV _ (fun w' hm => cut1_spec s w' (by omega)) ?_
  rw [hc]
  refine bsplitd (fun h1 => ?_) (fun h1 => ?_)
  · rw [if_pos (by omega)] at hE
    exact ⟨[.hp Hp.emp], ⟨_, rfl, ratR_err hE (by decide) _⟩, fun w' h => (h.pick [0] rfl rfl).emp⟩
  · rw [if_neg (by omega)] at hE
    have htl : (sgnD top).length ≤ top.length := by unfold sgnD; split <;> simp
    refine callV _ (fun w' hm => trimMinus_spec top w') ?_
    refine callV _ (fun w' hm => digits_spec (sgnD top) (by omega) w') ?_
    cases fl with
    | false =>
      simp only [Bool.false_and, Bool.or_false, if_true, Bool.false_eq_true, if_false] at hE
      refine bsplit (fun h2 => ?_) (fun h2 => ?_)
      · rw [if_pos h2] at hE
        exact ⟨[.hp Hp.emp], ⟨_, rfl, ratR_err hE (by decide) _⟩, fun w' h => (h.pick [0] rfl rfl).emp⟩
      · rw [if_neg (by rw [h2]; decide)] at hE
        refine call (fun w' hm => intParse_spec top (by omega) w') ?_
        rintro _ _ ⟨g, rfl, n1, a1, k1, c1, x, rfl, hM, hp, hz, hn⟩
        intro b10
        refine bsplitd (fun h7 => ?_) (fun h7 => ?_)
        · rw [if_pos h7] at hE
          exact ⟨[.hp Hp.emp], ⟨_, rfl, ratR_err hE (by decide) _⟩, fun w' h => (h.pick [0] rfl rfl).emp⟩
        · have h7 : parE top = 0 := by simpa using h7
          rw [if_neg (fun g => g h7)] at hE
          obtain ⟨z1, z2⟩ := hz h7
          exact ⟨[.hp g], ⟨g, rfl, n1, a1, k1, c1, none, 0, 0, x, 0, by rw [hE]; rfl, hM, mag_nil g, hp, fun _ => by rw [hc]; exact ⟨z1, z2, rfl⟩, fun e => absurd hE e⟩, fun w' h => h.pick [0, 2] rfl rfl⟩
    | true =>
      simp only [Bool.true_and, Bool.true_eq_false, if_false] at hE
      refine bsplit (fun h2 => ?_) (fun h2 => ?_)
      · rw [h2, Bool.true_or, if_pos rfl] at hE
        exact ⟨[.hp Hp.emp], ⟨_, rfl, ratR_err hE (by decide) _⟩, fun w' h => (h.pick [0] rfl rfl).emp⟩
      · refine callV _ (fun w' hm => digits_spec bot (by omega) w') ?_
        rw [h2, Bool.false_or] at hE
        refine bsplit (fun h4 => ?_) (fun h4 => ?_)
        · rw [if_pos h4] at hE
          exact ⟨[.hp Hp.emp], ⟨_, rfl, ratR_err hE (by decide) _⟩, fun w' h => (h.pick [0] rfl rfl).emp⟩
        · rw [if_neg (by rw [h4]; decide)] at hE
          obtain ⟨d1, d2, d3, d4⟩ := sgnD_dig (l := bot) (by simpa using h4)
          refine callV _ (fun w' hm => trim1_spec bot 48 (by omega) (by decide) w') ?_
          refine qEqL (b := []) ?_
          have hz0 : Lib.trimS bot [48] = [] ↔ (bot.all fun c => decide (c = 48)) = true := by
            rw [trim_nil]
            have : (fun c : UInt8 => ([48] : Byts).contains c) = fun c => decide (c = 48) := by
              funext c
              rw [Bool.eq_iff_iff]; simp
            rw [this]
          refine bsplitd (fun h6 => ?_) (fun h6 => ?_)
          · rw [if_pos (hz0.1 h6)] at hE
            exact ⟨[.hp Hp.emp], ⟨_, rfl, ratR_err hE (by decide) _⟩, fun w' h => (h.pick [0] rfl rfl).emp⟩
          · rw [if_neg (fun g => h6 (hz0.2 g))] at hE
            refine call (fun w' hm => intParse_spec top (by omega) w') ?_
            rintro _ _ ⟨g, rfl, n1, a1, k1, c1, x, rfl, hM, hp, hz, hn⟩
            intro b10
            refine bsplitd (fun h7 => ?_) (fun h7 => ?_)
            · rw [if_pos h7] at hE
              exact ⟨[.hp Hp.emp], ⟨_, rfl, ratR_err hE (by decide) _⟩, fun w' h => (h.pick [0] rfl rfl).emp⟩
            · have h7 : parE top = 0 := by simpa using h7
              rw [if_neg (fun g => g h7)] at hE
              obtain ⟨z1, z2⟩ := hz h7
              refine callS (fun w' hm => intParse_spec bot (by omega) w') ?_
              rintro _ _ ⟨g2, rfl, n2, a2, k2, c2, y, rfl, hM2, hp2, hz2, hn2⟩ hsat
              have hg2 : g2.le (g.join g2) := hsat.leR 2 4 rfl rfl
              intro b12
              refine NeedD.cut Bool (fun b => [(4, .bx 1 0), (10, .bx 3 0), (12, .bx 5 0), (80, .v (.bool b))]) (fun _ => [.hp (Hp.whole w), .box b4 [.bool false, .slice none 0 0, .bool false, .slice none 0 0] 98, .hp g, .box b10 [.bool n1, .slice a1 k1 c1] 54, .hp g2, .box b12 [.bool n2, .slice a2 k2 c2] 54])
                (fun b => b = true ↔ (parE bot ≠ 0 ∨ dgV bot = 1 ∨ Nat.gcd (dgV (sgnD top)) (dgV bot) ≠ 1)) (NeedD.by_order (cxg _) (.take 0 <| .take 1 <| .take 2 <| .take 3 <| .run 4 <| .run 5 <| .take 6 <| .take 7 <| .take 8 <| .take 9 <| .take 10 <| .run 11 <| .run 12 <| .run 13 <| .take 14 <| .take 15 <| .done) (by kernel_rfl) ?_) ?_
              · refine bsplitd (fun h9 => ?_) (fun h9 => ?_)
                · refine ⟨(by repeat first | exact trivial | refine ⟨.inl rfl, ?_⟩ | refine ⟨.inr rfl, ?_⟩), ?_⟩
                  refine ⟨(by repeat first | exact trivial | refine ⟨.inl rfl, ?_⟩ | refine ⟨.inr rfl, ?_⟩), ?_⟩
                  refine ⟨(by repeat first | exact trivial | refine ⟨.inl rfl, ?_⟩ | refine ⟨.inr rfl, ?_⟩), ?_⟩
                  refine ⟨(by repeat first | exact trivial | refine ⟨.inl rfl, ?_⟩ | refine ⟨.inr rfl, ?_⟩), ?_⟩
                  refine ⟨(by repeat first | exact trivial | refine ⟨.inl rfl, ?_⟩ | refine ⟨.inr rfl, ?_⟩), ?_⟩
                  exact ⟨true, ⟨fun _ => .inl h9, fun _ => rfl⟩, Ent.mk (fun _ _ h => h) rfl rfl⟩
                · have h9 : parE bot = 0 := by simpa using h9
                  obtain ⟨y1, y2⟩ := hz2 h9
                  rw [d1] at y1
                  rw [d2] at y2
                  subst y1 y2 z2
                  refine call (fun w' hm => one_spec w') ?_
                  rintro _ _ ⟨g3, a3, k3, c3, rfl, rfl, hM3⟩
                  refine ⟨(by repeat first | exact trivial | refine ⟨.inl rfl, ?_⟩ | refine ⟨.inr rfl, ?_⟩), ?_⟩
                  refine callV _ (fun w' hm => compareM_spec w' (hM2.mono (hm 4 _ rfl).whole) (hM3.mono (hm 6 _ rfl).whole) nofun nofun) ?_
                  refine ⟨(by repeat first | exact trivial | refine ⟨.inl rfl, ?_⟩ | refine ⟨.inr rfl, ?_⟩), ?_⟩
                  refine bsplitd (fun h10 => ?_) (fun h10 => ?_)
                  · rw [ord_one] at h10
                    refine ⟨(by repeat first | exact trivial | refine ⟨.inl rfl, ?_⟩ | refine ⟨.inr rfl, ?_⟩), ?_⟩
                    refine ⟨(by repeat first | exact trivial | refine ⟨.inl rfl, ?_⟩ | refine ⟨.inr rfl, ?_⟩), ?_⟩
                    refine ⟨(by repeat first | exact trivial | refine ⟨.inl rfl, ?_⟩ | refine ⟨.inr rfl, ?_⟩), ?_⟩
                    exact ⟨true, ⟨fun _ => .inr (.inl h10), fun _ => rfl⟩, Ent.mk (fun _ _ h => h.pick [0, 1, 2, 3, 4, 5] rfl rfl) rfl rfl⟩
                  · rw [ord_one] at h10
                    refine call (fun w' hm => gcd_spec w' (Hp.join_in (hm 2 _ rfl) (hm 4 _ rfl)) (hM.mono (Hp.le_left g g2)) (hM2.mono hg2)) ?_
                    rintro _ _ ⟨g4, a4, k4, c4, rfl, rfl, hM4⟩
                    refine ⟨(by repeat first | exact trivial | refine ⟨.inl rfl, ?_⟩ | refine ⟨.inr rfl, ?_⟩), ?_⟩
                    refine call (fun w' hm => one_spec w') ?_
                    rintro _ _ ⟨g5, a5, k5, c5, rfl, rfl, hM5⟩
                    refine ⟨(by repeat first | exact trivial | refine ⟨.inl rfl, ?_⟩ | refine ⟨.inr rfl, ?_⟩), ?_⟩
                    refine callV _ (fun w' hm => compareM_spec w' (hM4 _ (Hp.join_in (hm 2 _ rfl) (hm 4 _ rfl)).whole (hm 7 _ rfl).whole) (hM5.mono (hm 8 _ rfl).whole) nofun nofun) ?_
                    refine ⟨(by repeat first | exact trivial | refine ⟨.inl rfl, ?_⟩ | refine ⟨.inr rfl, ?_⟩), ?_⟩
                    refine ⟨decide (ordZ (intZ false (Nat.gcd (dgV (sgnD top)) (dgV bot))) (intZ false 1) ≠ 0), ?_, Ent.mk (fun _ _ h => h.pick [0, 1, 2, 3, 4, 5] rfl rfl) rfl rfl⟩
                    rw [decide_eq_true_eq, Ne, ord_one]
                    constructor
                    · intro h; exact .inr (.inr h)
                    · rintro (h | h | h)
                      · exact absurd h9 h
                      · exact absurd h h10
                      · exact h
              rintro b hb hsat2
              dsimp only
              refine bsplit (fun h11 => ?_) (fun h11 => ?_)
              · rw [if_pos (hb.1 h11)] at hE
                exact ⟨[.hp Hp.emp], ⟨_, rfl, ratR_err hE (by decide) _⟩, fun w' h => (h.pick [0] rfl rfl).emp⟩
              · have hnb : ¬ (parE bot ≠ 0 ∨ dgV bot = 1 ∨ Nat.gcd (dgV (sgnD top)) (dgV bot) ≠ 1) := fun h => by rw [hb.2 h] at h11; cases h11
                rw [if_neg hnb] at hE
                have h9 : parE bot = 0 := Classical.byContradiction fun h => hnb (.inl h)
                obtain ⟨y1, y2⟩ := hz2 h9
                rw [d1] at y1
                rw [d2] at y2
                subst y1
                exact ⟨[.hp (g.join g2)], ⟨_, rfl, n1, a1, k1, c1, a2, k2, c2, x, y, by rw [hE]; rfl, hM.mono (Hp.le_left _ _), hM2.mono hg2, hp, fun _ => by rw [hc]; exact ⟨z1, z2, by rw [if_pos rfl]; exact y2⟩, fun e => absurd hE e⟩, fun w' h => Ok.join (h.pick [0, 2, 4] rfl rfl)⟩
theorem ratParse_spec (s : Byts) (hs : s.length < 1000000) (w : World) :
    CallsE Tryz.prog 60 #[.string (bs s)] w (Ret w fun v cs => ∃ g, cs = [.hp g] ∧ RatR 400 s g v) := by
  refine enter (X := cx 8) (cxg _) (args := [.string (bs s)]) [.cell 2 98, .tmp 3] Tryz.func60 rfl rfl rfl rfl rfl ?_
  intro b2
  refine call (fun w' hm => read_spec s 400 (by decide) hs w') ?_
  rintro _ _ ⟨g, rfl, n1, a1, k1, c1, a2, k2, c2, x, y, rfl, h⟩
  exact ⟨[.hp g], ⟨g, rfl, n1, a1, k1, c1, a2, k2, c2, x, y, rfl, h⟩, fun w' h => h.pick [0, 2] rfl rfl⟩
end Go.Proofs.YtoholjdojdmbkaaGreatDoor
namespace Go.Proofs.YtoholjdojdmbkaaGreatDoor
open Go Go.RowKit Go.Dw
theorem letter_spec (c : UInt8) (w : World) : CallsE Tryz.prog 68 #[.int .u8 c.toNat] w (RetV w (.bool (isLow c))) := by
  refine enter (X := cx 9) (cxg _) (args := [.int .u8 c.toNat]) [.tmp 2] Tryz.func68 rfl rfl rfl rfl rfl ?_
  refine bsplitd (fun h1 => ?_) (fun h1 => ?_)
  · exact ⟨[], ⟨by unfold isLow; rw [decide_eq_true (show 97 ≤ c.toNat by omega), Bool.true_and]; congr 1; rw [decide_eq_decide]; omega, rfl⟩, fun w' h => h.pick [0] rfl rfl⟩
  · exact ⟨[], ⟨by unfold isLow; rw [decide_eq_false (show ¬ 97 ≤ c.toNat by omega)]; rfl, rfl⟩, fun w' h => h.pick [0] rfl rfl⟩
theorem digit_cspec (c : UInt8) (w : World) : CallsE Tryz.prog 70 #[.int .u8 c.toNat] w (RetV w (.bool (isDig c))) := by
  refine enter (X := cx 9) (cxg _) (args := [.int .u8 c.toNat]) [.tmp 2] Tryz.func70 rfl rfl rfl rfl rfl ?_
  refine bsplitd (fun h1 => ?_) (fun h1 => ?_)
  · exact ⟨[], ⟨by unfold isDig; rw [decide_eq_true (show 48 ≤ c.toNat by omega), Bool.true_and]; congr 1; rw [decide_eq_decide]; omega, rfl⟩, fun w' h => h.pick [0] rfl rfl⟩
  · exact ⟨[], ⟨by unfold isDig; rw [decide_eq_false (show ¬ 48 ≤ c.toNat by omega)]; rfl, rfl⟩, fun w' h => h.pick [0] rfl rfl⟩
theorem byte_eq (c k : UInt8) : decide ((c.toNat : Int) = (k.toNat : Int)) = decide (c = k) := by
  rw [decide_eq_decide]
  constructor
  · intro h; exact UInt8.toNat_inj.1 (by omega)
  · intro h; rw [h]
theorem inner_spec (c : UInt8) (w : World) : CallsE Tryz.prog 111 #[.int .u8 c.toNat] w (RetV w (.bool (isInn c))) := by
  refine enter (X := cx 17) (cxg _) (args := [.int .u8 c.toNat]) [.tmp 2] Tryz.func111 rfl rfl rfl rfl rfl ?_
  refine callV _ (fun w' hm => letter_spec c w') ?_
  refine bsplit (fun h1 => ?_) (fun h1 => ?_)
  · exact ⟨[], ⟨by unfold isInn; rw [h1]; rfl, rfl⟩, fun w' h => h.pick [0] rfl rfl⟩
  · refine callV _ (fun w' hm => digit_cspec c w') ?_
    refine bsplit (fun h2 => ?_) (fun h2 => ?_)
    · exact ⟨[], ⟨by unfold isInn; rw [h2, Bool.or_true]; rfl, rfl⟩, fun w' h => h.pick [0] rfl rfl⟩
    · refine bsplitd (fun h3 => ?_) (fun h3 => ?_)
      · have e : c = 45 := UInt8.toNat_inj.1 (by show c.toNat = 45; omega)
        exact ⟨[], ⟨by unfold isInn; rw [decide_eq_true e, Bool.or_true]; rfl, rfl⟩, fun w' h => h.pick [0] rfl rfl⟩
      · have e : ¬ c = 45 := fun e => h3 (by rw [e]; rfl)
        have := byte_eq c 95
        exact ⟨[], ⟨by unfold isInn; rw [h1, h2, decide_eq_false e, ← this]; rfl, rfl⟩, fun w' h => h.pick [0] rfl rfl⟩
theorem quote_spec (c : UInt8) (w : World) : CallsE Tryz.prog 72 #[.int .u8 c.toNat] w (RetV w (.bool (decide (c = 34)))) := by
  refine enter (X := cx 5) (cxg _) (args := [.int .u8 c.toNat]) [.tmp 2] Tryz.func72 rfl rfl rfl rfl rfl ?_
  have := byte_eq c 34
  exact ⟨[], ⟨by rw [← this]; rfl, rfl⟩, fun w' h => h.pick [0] rfl rfl⟩
theorem other_spec (c : UInt8) (w : World) : CallsE Tryz.prog 74 #[.int .u8 c.toNat] w (RetV w (.bool true)) := by
  refine enter (X := cx 3) (cxg _) (args := [.int .u8 c.toNat]) [.tmp 2] Tryz.func74 rfl rfl rfl rfl rfl ?_
  exact ⟨[], ⟨rfl, rfl⟩, fun w' h => h.pick [0] rfl rfl⟩
/-! ### runs -/
theorem run_le (f : UInt8 → Bool) (l : Byts) : runN f l ≤ l.length := by
  unfold runN
  have := List.takeWhile_append_dropWhile (p := f) (l := l)
  have h := congrArg List.length this
  rw [List.length_append] at h
  omega
theorem run_takeAll (f : UInt8 → Bool) : ∀ l : Byts, (l.take (runN f l)).all f = true
  | [] => rfl
  | c :: l => by
    by_cases h : f c = true
    · have e : runN f (c :: l) = runN f l + 1 := by unfold runN; rw [List.takeWhile_cons, if_pos h]; rfl
      rw [e, List.take_succ_cons, List.all_cons, h, run_takeAll f l]; rfl
    · have e : runN f (c :: l) = 0 := by unfold runN; rw [List.takeWhile_cons, if_neg h]; rfl
      rw [e]; rfl
theorem run_pos (f : UInt8 → Bool) (l : Byts) : 0 < runN f l ↔ 0 < l.length ∧ f (l.getD 0 0) = true := by
  cases l with
  | nil => unfold runN; simp
  | cons c l =>
    unfold runN
    rw [List.takeWhile_cons]
    by_cases h : f c = true
    · rw [if_pos h]; simp [h]
    · rw [if_neg h]; simp [h]
theorem run_next {f : UInt8 → Bool} {l : Byts} {k : Nat} (hk : k ≤ l.length) (ha : ∀ i, i < k → f (l.getD i 0) = true) (hn : k < l.length → f (l.getD k 0) = false) : runN f l = k := by
  induction l generalizing k with
  | nil => simp at hk; subst hk; rfl
  | cons c l ih =>
    cases k with
    | zero =>
      have := hn (by simp)
      have h : f c = false := this
      unfold runN; rw [List.takeWhile_cons, if_neg (by rw [h]; decide)]; rfl
    | succ k =>
      have h : f c = true := ha 0 (by omega)
      have := ih (k := k) (by simpa using hk) (fun i hi => ha (i + 1) (by omega)) (fun hl => hn (by simpa using hl))
      unfold runN at *
      rw [List.takeWhile_cons, if_pos h, List.length_cons, this]
theorem run_spec (g : Nat) (f : UInt8 → Bool) (s : Byts) (hs : s.length < 1000000000) (w : World) (hf : ∀ w' (c : UInt8), CallsE Tryz.prog g #[.int .u8 c.toNat] w' (RetV w' (.bool (f c)))) :
    CallsE Tryz.prog 78 #[.string (bs s), .func (.func g) #[] #[]] w (RetV w (.int .i64 (runN f s))) := by
  have hz := bs_size s
  refine enter (X := cx 20) (cxg _) (args := [.string (bs s), .func (.func g) #[] #[]]) [.tmp 4] Tryz.func78 rfl rfl rfl rfl rfl ?_
  refine NeedL.mk Nat (fun k => [(0, .v (.string (bs s))), (1, .v (.func (.func g) #[] #[])), (5, .v (.int .i64 k))]) (fun _ => [.hp (Hp.whole w)])
    (fun k => k ≤ s.length ∧ ∀ i, i < k → f (s.getD i 0) = true) (fun k => s.length - k) 0 ⟨Nat.zero_le _, fun i hi => by omega⟩ (Ent.mk (fun _ _ h => h) rfl rfl) ?_
  rintro k ⟨hk, ha⟩
  dsimp only at *
  refine bsplitd (fun h1 => ?_) (fun h1 => ?_)
  · have hk' : k < s.length := by omega
    refine qIdxL (cxg _) rfl rfl k rfl hk' ?_
    refine callV _ (fun w' hm => hf w' (s.getD k 0)) ?_
    refine bsplit (fun h3 => ?_) (fun h3 => ?_)
    · refine nw (by omega) (by omega) ?_
      exact ⟨k + 1, ⟨by omega, fun i hi => by
        rcases Nat.lt_or_ge i k with h | h
        · exact ha i h
        · have : i = k := by omega
          rw [this]; exact h3⟩, by omega, Ent.mk (fun _ _ h => h) rfl rfl⟩
    · exact ⟨[], ⟨by rw [run_next hk ha fun _ => h3], rfl⟩, fun w' h => h.pick [0] rfl rfl⟩
  · exact ⟨[], ⟨by rw [run_next hk ha fun h => absurd h (by omega)], rfl⟩, fun w' h => h.pick [0] rfl rfl⟩
def trip (r : Nat × Byts × Int) : Value := .tuple #[.int .i64 r.1, .string (bs r.2.1), .int .i64 r.2.2]
def wordF (s : Byts) : Nat × Byts × Int := if 40 < runN isInn s then (0, [], 5) else (runN isInn s, s.take (runN isInn s), 0)
theorem word_spec (s : Byts) (hs : s.length < 1000000000) (w : World) : CallsE Tryz.prog 69 #[.string (bs s)] w (RetV w (trip (wordF s))) := by
  refine enter (X := cx 13) (cxg _) (args := [.string (bs s)]) [.tmp 2, .tmp 3, .tmp 4] Tryz.func69 rfl rfl rfl rfl rfl ?_
  refine callV _ (fun w' hm => run_spec 111 isInn s hs w' fun w' c => inner_spec c w') ?_
  refine bsplitd (fun h1 => ?_) (fun h1 => ?_)
  · exact ⟨[], ⟨by unfold wordF; rw [if_pos (by omega)]; rfl, rfl⟩, fun w' h => h.pick [0] rfl rfl⟩
  · refine NeedD.by_order (cxg _) (.take 0 <| .take 1 <| .take 2 <| .take 3 <| .take 4 <| .take 5 <| .take 6 <| .done) (by kernel_rfl) ?_
    refine qSub (cxg _) rfl rfl 0 (runN isInn s) (.inl ⟨rfl, rfl⟩) (.inr ⟨_, _, rfl, rfl⟩) (by omega) (run_le _ _) ?_
    rw [List.drop_zero]
    exact ⟨[], ⟨by unfold wordF; rw [if_neg (by omega)]; rfl, rfl⟩, fun w' h => h.pick [0] rfl rfl⟩
def numF (s : Byts) : Nat × Byts × Int := if 400 < (numN s).1 then (0, [], 5) else if canN (s.take (numN s).1) (numN s).2 = true then ((numN s).1, s.take (numN s).1, 0) else (0, [], 3)
theorem getD_drop (s : Byts) (k i : Nat) : (s.drop k).getD i 0 = s.getD (k + i) 0 := by
  rw [List.getD_eq_getElem?_getD, List.getElem?_drop, ← List.getD_eq_getElem?_getD]
set_option maxHeartbeats 400000 in
set_option maxRecDepth 20000 in
theorem number_spec (s : Byts) (hs : s.length < 900000) (h0 : 0 < s.length) (hd : isDig (s.getD 0 0) = true) (w : World) : CallsE Tryz.prog 71 #[.string (bs s)] w (Ret w fun v cs => cs = [] ∧ v = trip (numF s)) := by
  have hz := bs_size s
  have hk0 : 0 < runN isDig s := (run_pos isDig s).2 ⟨h0, hd⟩
  have hkl := run_le isDig s
  have hka := run_takeAll isDig s
  have hpos := run_pos isDig (s.drop (runN isDig s + 1))
  rw [getD_drop, List.length_drop, Nat.add_zero] at hpos
  have hml := run_le isDig (s.drop (runN isDig s + 1))
  rw [List.length_drop] at hml
  have hma := run_takeAll isDig (s.drop (runN isDig s + 1))
  have hN1 : s.getD (runN isDig s) 0 = 47 ∧ runN isDig s < s.length ∧ 0 < runN isDig (s.drop (runN isDig s + 1)) → numN s = (runN isDig s + 1 + runN isDig (s.drop (runN isDig s + 1)), runN isDig s) := fun h => by unfold numN; dsimp only; rw [if_pos h]
  have hN2 : ¬ (s.getD (runN isDig s) 0 = 47 ∧ runN isDig s < s.length ∧ 0 < runN isDig (s.drop (runN isDig s + 1))) → numN s = (runN isDig s, runN isDig s) := fun h => by unfold numN; dsimp only; rw [if_neg h]
  have hrun : ∀ w', CallsE Tryz.prog 78 #[.string (bs s), .func (.func 70) #[] #[]] w' (RetV w' (.int .i64 (runN isDig s))) := fun w' => run_spec 70 isDig s (by omega) w' fun w' c => digit_cspec c w'
  have hrun2 : ∀ w', CallsE Tryz.prog 78 #[.string (bs (s.drop (runN isDig s + 1))), .func (.func 70) #[] #[]] w' (RetV w' (.int .i64 (runN isDig (s.drop (runN isDig s + 1))))) := fun w' => run_spec 70 isDig _ (by rw [List.length_drop]; omega) w' fun w' c => digit_cspec c w'
  generalize runN isDig s = k at *
  generalize runN isDig (s.drop (k + 1)) = m at *
  have hint : k ≤ 400 → (reaE 400 (s.take k) = 0 ↔ canN (s.take k) k = true) := fun h => by
    have hl : (s.take k).length = k := by rw [List.length_take]; omega
    have := reaE_int hka (by omega) (by omega)
    rwa [hl] at this
  refine enter (X := cx 49) (cxg _) (args := [.string (bs s)]) [.tmp 2, .tmp 3, .tmp 4] Tryz.func71 rfl rfl rfl rfl rfl ?_
  refine callV _ (fun w' hm => hrun w') ?_
  refine nw (by omega) (by omega) ?_
  refine bsplitd (fun h1 => ?_) (fun h1 => ?_)
  · have h1 : k + 1 < s.length := by omega
    refine qIdxL (cxg _) rfl rfl k rfl (by omega) ?_
    generalize hc0 : s.getD k 0 = c0 at *
    conv => whnf
    refine bsplitd (fun h3 => ?_) (fun h3 => ?_)
    · have h3 : c0 = 47 := UInt8.toNat_inj.1 (by show c0.toNat = 47; omega)
      refine qIdxL (cxg _) rfl rfl (k + 1) (by omega) (by omega) ?_
      generalize hc1 : s.getD (k + 1) 0 = c1' at *
      refine callV _ (fun w' hm => digit_cspec c1' w') ?_
      refine bsplit (fun h5 => ?_) (fun h5 => ?_)
      · have hm0 := hpos.2 ⟨by omega, h5⟩
        have hN := hN1 ⟨h3, by omega, hm0⟩
        refine qSub (cxg _) rfl rfl (k + 1) s.length (.inr ⟨_, _, rfl, by omega⟩) (.inl ⟨rfl, rfl⟩) (by omega) (Nat.le_refl _) ?_
        rw [List.take_length]
        refine callV _ (fun w' hm => hrun2 w') ?_
        refine nwEq (y := ((k + 1 + m : Nat) : Int)) (by omega) (by omega) (by omega) ?_
        have hcan : k + 1 + m ≤ 400 → (reaE 400 (s.take (k + 1 + m)) = 0 ↔ canN (s.take (k + 1 + m)) k = true) := fun h => by
          have hl : (s.take k).length = k := by rw [List.length_take]; omega
          have hl2 : ((s.drop (k + 1)).take m).length = m := by rw [List.length_take, List.length_drop]; omega
          have e : s.take (k + 1 + m) = s.take k ++ 47 :: (s.drop (k + 1)).take m := by
            rw [List.take_add, take_snoc s k (by omega)]
            have : s[k] = 47 := by rw [← h3, ← hc0, List.getD_eq_getElem?_getD, List.getElem?_eq_getElem (by omega)]; rfl
            rw [this]; simp
          have := reaE_rat hka hma (by omega) (by omega) (by rw [← e, List.length_take]; omega)
          rw [← e, hl] at this
          exact this
        generalize hNN : k + 1 + m = N at *
        refine bsplitd (fun h6 => ?_) (fun h6 => ?_)
        · exact ⟨[], ⟨rfl, by unfold numF; rw [hN, if_pos (by dsimp only; omega)]; rfl⟩, fun w' h => h.pick [0] rfl rfl⟩
        · have hc := hcan (by omega)
          refine qSub (cxg _) rfl rfl 0 N (.inl ⟨rfl, rfl⟩) (.inr ⟨_, _, rfl, rfl⟩) (by omega) (by omega) ?_
          rw [List.drop_zero]
          refine call (fun w' hm => ratParse_spec (s.take N) (by rw [List.length_take]; omega) w') ?_
          rintro _ _ ⟨g, rfl, n1, a1, k1, c1, a2, k2, c2, x, y, rfl, hR⟩
          intro b6
          refine bsplitd (fun h7 => ?_) (fun h7 => ?_)
          · have : ¬ canN (s.take N) (numN s).2 = true := fun g => h7 (hc.2 (by rw [hN] at g; exact g))
            exact ⟨[], ⟨rfl, by unfold numF; rw [hN] at this ⊢; rw [if_neg (by dsimp only; omega), if_neg this]; rfl⟩, fun w' h => h.pick [0] rfl rfl⟩
          · have h7 : reaE 400 (s.take N) = 0 := by simpa using h7
            have : canN (s.take N) (numN s).2 = true := by rw [hN]; exact hc.1 h7
            refine NeedD.by_order (cxg _) (.take 0 <| .take 1 <| .take 2 <| .take 3 <| .take 4 <| .take 5 <| .take 6 <| .done) (by kernel_rfl) ?_
            refine qSub (cxg _) rfl rfl 0 N (.inl ⟨rfl, rfl⟩) (.inr ⟨_, _, rfl, rfl⟩) (by omega) (by omega) ?_
            rw [List.drop_zero]
            exact ⟨[], ⟨rfl, by unfold numF; rw [hN] at this ⊢; rw [if_neg (by dsimp only; omega), if_pos this]; rfl⟩, fun w' h => h.pick [0] rfl rfl⟩
      · have hN := hN2 fun h => by have := (hpos.1 h.2.2).2; rw [h5] at this; cases this
        have hcan := hint
        generalize hNN : k = N at *
        refine bsplitd (fun h6 => ?_) (fun h6 => ?_)
        · exact ⟨[], ⟨rfl, by unfold numF; rw [hN, if_pos (by dsimp only; omega)]; rfl⟩, fun w' h => h.pick [0] rfl rfl⟩
        · have hc := hcan (by omega)
          refine qSub (cxg _) rfl rfl 0 N (.inl ⟨rfl, rfl⟩) (.inr ⟨_, _, rfl, rfl⟩) (by omega) (by omega) ?_
          rw [List.drop_zero]
          refine call (fun w' hm => ratParse_spec (s.take N) (by rw [List.length_take]; omega) w') ?_
          rintro _ _ ⟨g, rfl, n1, a1, k1, c1, a2, k2, c2, x, y, rfl, hR⟩
          intro b6
          refine bsplitd (fun h7 => ?_) (fun h7 => ?_)
          · have : ¬ canN (s.take N) (numN s).2 = true := fun g => h7 (hc.2 (by rw [hN] at g; exact g))
            exact ⟨[], ⟨rfl, by unfold numF; rw [hN] at this ⊢; rw [if_neg (by dsimp only; omega), if_neg this]; rfl⟩, fun w' h => h.pick [0] rfl rfl⟩
          · have h7 : reaE 400 (s.take N) = 0 := by simpa using h7
            have : canN (s.take N) (numN s).2 = true := by rw [hN]; exact hc.1 h7
            refine NeedD.by_order (cxg _) (.take 0 <| .take 1 <| .take 2 <| .take 3 <| .take 4 <| .take 5 <| .take 6 <| .done) (by kernel_rfl) ?_
            refine qSub (cxg _) rfl rfl 0 N (.inl ⟨rfl, rfl⟩) (.inr ⟨_, _, rfl, rfl⟩) (by omega) (by omega) ?_
            rw [List.drop_zero]
            exact ⟨[], ⟨rfl, by unfold numF; rw [hN] at this ⊢; rw [if_neg (by dsimp only; omega), if_pos this]; rfl⟩, fun w' h => h.pick [0] rfl rfl⟩
    · have hN := hN2 fun h => h3 (by rw [h.1]; rfl)
      have hcan := hint
      generalize hNN : k = N at *
      refine bsplitd (fun h6 => ?_) (fun h6 => ?_)
      · exact ⟨[], ⟨rfl, by unfold numF; rw [hN, if_pos (by dsimp only; omega)]; rfl⟩, fun w' h => h.pick [0] rfl rfl⟩
      · have hc := hcan (by omega)
        refine qSub (cxg _) rfl rfl 0 N (.inl ⟨rfl, rfl⟩) (.inr ⟨_, _, rfl, rfl⟩) (by omega) (by omega) ?_
        rw [List.drop_zero]
        refine call (fun w' hm => ratParse_spec (s.take N) (by rw [List.length_take]; omega) w') ?_
        rintro _ _ ⟨g, rfl, n1, a1, k1, c1, a2, k2, c2, x, y, rfl, hR⟩
        intro b6
        refine bsplitd (fun h7 => ?_) (fun h7 => ?_)
        · have : ¬ canN (s.take N) (numN s).2 = true := fun g => h7 (hc.2 (by rw [hN] at g; exact g))
          exact ⟨[], ⟨rfl, by unfold numF; rw [hN] at this ⊢; rw [if_neg (by dsimp only; omega), if_neg this]; rfl⟩, fun w' h => h.pick [0] rfl rfl⟩
        · have h7 : reaE 400 (s.take N) = 0 := by simpa using h7
          have : canN (s.take N) (numN s).2 = true := by rw [hN]; exact hc.1 h7
          refine NeedD.by_order (cxg _) (.take 0 <| .take 1 <| .take 2 <| .take 3 <| .take 4 <| .take 5 <| .take 6 <| .done) (by kernel_rfl) ?_
          refine qSub (cxg _) rfl rfl 0 N (.inl ⟨rfl, rfl⟩) (.inr ⟨_, _, rfl, rfl⟩) (by omega) (by omega) ?_
          rw [List.drop_zero]
          exact ⟨[], ⟨rfl, by unfold numF; rw [hN] at this ⊢; rw [if_neg (by dsimp only; omega), if_pos this]; rfl⟩, fun w' h => h.pick [0] rfl rfl⟩
  · have hN := hN2 fun h => by have := (hpos.1 h.2.2).1; omega
    have hcan := hint
    generalize hNN : k = N at *
    refine bsplitd (fun h6 => ?_) (fun h6 => ?_)
    · exact ⟨[], ⟨rfl, by unfold numF; rw [hN, if_pos (by dsimp only; omega)]; rfl⟩, fun w' h => h.pick [0] rfl rfl⟩
    · have hc := hcan (by omega)
      refine qSub (cxg _) rfl rfl 0 N (.inl ⟨rfl, rfl⟩) (.inr ⟨_, _, rfl, rfl⟩) (by omega) (by omega) ?_
      rw [List.drop_zero]
      refine call (fun w' hm => ratParse_spec (s.take N) (by rw [List.length_take]; omega) w') ?_
      rintro _ _ ⟨g, rfl, n1, a1, k1, c1, a2, k2, c2, x, y, rfl, hR⟩
      intro b6
      refine bsplitd (fun h7 => ?_) (fun h7 => ?_)
      · have : ¬ canN (s.take N) (numN s).2 = true := fun g => h7 (hc.2 (by rw [hN] at g; exact g))
        exact ⟨[], ⟨rfl, by unfold numF; rw [hN] at this ⊢; rw [if_neg (by dsimp only; omega), if_neg this]; rfl⟩, fun w' h => h.pick [0] rfl rfl⟩
      · have h7 : reaE 400 (s.take N) = 0 := by simpa using h7
        have : canN (s.take N) (numN s).2 = true := by rw [hN]; exact hc.1 h7
        refine NeedD.by_order (cxg _) (.take 0 <| .take 1 <| .take 2 <| .take 3 <| .take 4 <| .take 5 <| .take 6 <| .done) (by kernel_rfl) ?_
        refine qSub (cxg _) rfl rfl 0 N (.inl ⟨rfl, rfl⟩) (.inr ⟨_, _, rfl, rfl⟩) (by omega) (by omega) ?_
        rw [List.drop_zero]
        exact ⟨[], ⟨rfl, by unfold numF; rw [hN] at this ⊢; rw [if_neg (by dsimp only; omega), if_pos this]; rfl⟩, fun w' h => h.pick [0] rfl rfl⟩
end Go.Proofs.YtoholjdojdmbkaaGreatDoor
