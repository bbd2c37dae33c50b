/- Parts of one proof, joined: W1, W2, W3, W4, W5, W6, W7, W8, W9. No condition of its own. -/
import Derived.Test.YtnlkffccobdbjaaGreatXJ
import Derived.Laws.Strings
import Derived.Laws.Cover1
import Derived.Laws.StructEq
import Derived.Lib.DecodeN
import Derived.Test.YtnlkffccobdbjaaGreatXC
import Derived.Test.YtnlkffccobdbjaaGreatXD
import Derived.Test.YtnlkffccobdbjaaGreatXG
import Derived.Test.YtnlkffccobdbjaaGreatXB
namespace Go.Dw
open Go Go.RowKit
theorem str_ext {x y : ByteArray} (h : x.toList = y.toList) : x = y := by
  rw [ByteArray.toList_eq, ByteArray.toList_eq] at h
  obtain ⟨⟨x⟩⟩ := x
  obtain ⟨⟨y⟩⟩ := y
  simp only at h
  rw [h]
theorem str_eq (x y : ByteArray) : (x.toList == y.toList) = decide (x = y) := by
  rw [Bool.eq_iff_iff, beq_iff_eq, decide_eq_true_eq]
  exact ⟨str_ext, fun h => by rw [h]⟩
/-- one string stands before another -/
def sLt (x y : ByteArray) : Bool := Op.bytesLess x.toList y.toList
section
variable {P : Program} {s : List Ch} {xo yo : Operand} {ty : Nat} {x y : ByteArray} {q : TV → Prop}
theorem qEqS (h : q (.v (.bool (decide (x = y))))) : NeedQ P s (do eqGuard .eql ty xo yo (.string x) (.string y); binOp .eql ty (.string x) (.string y)) q := by
  refine ⟨_, fun w _ => ?_, h⟩
  have hg : (eqGuard .eql ty xo yo (.string x) (.string y)).run P w = .ok () w := by simp [eqGuard]
  rw [Sem.run_bind, hg, Result.andThen_ok, binOp_string_eql, str_eq]
  rfl
theorem qNeS (h : q (.v (.bool (decide (x ≠ y))))) : NeedQ P s (do eqGuard .neq ty xo yo (.string x) (.string y); binOp .neq ty (.string x) (.string y)) q := by
  refine ⟨_, fun w _ => ?_, h⟩
  have hg : (eqGuard .neq ty xo yo (.string x) (.string y)).run P w = .ok () w := by simp [eqGuard]
  rw [Sem.run_bind, hg, Result.andThen_ok, binOp_string_neq, str_eq, ← decide_not]
  rfl
theorem qGeS (h : q (.v (.bool (!sLt x y)))) : NeedQ P s (do eqGuard .geq ty xo yo (.string x) (.string y); binOp .geq ty (.string x) (.string y)) q := by
  refine ⟨_, fun w _ => ?_, h⟩
  have hg : (eqGuard .geq ty xo yo (.string x) (.string y)).run P w = .ok () w := by simp [eqGuard]
  rw [Sem.run_bind, hg, Result.andThen_ok, binOp_string_geq]
  rfl
theorem qLeS (h : q (.v (.bool (sLt x y || decide (x = y))))) : NeedQ P s (do eqGuard .leq ty xo yo (.string x) (.string y); binOp .leq ty (.string x) (.string y)) q := by
  refine ⟨_, fun w _ => ?_, h⟩
  have hg : (eqGuard .leq ty xo yo (.string x) (.string y)).run P w = .ok () w := by simp [eqGuard]
  rw [Sem.run_bind, hg, Result.andThen_ok, binOp_string_leq, str_eq]
  rfl
/-- byte i of a string -/
theorem get_bang {x : ByteArray} {i : Nat} (h : i < x.size) : x[i]'h = x.get! i := by
  obtain ⟨a⟩ := x
  exact (getElem!_pos a i h).symm
theorem qIdxS {X : Ctx} (hX : X.Good) {S : Nat} {ti : TI} (ht : tget X.tt S = some ti) (hk : ti.k = .str) {k : IntKind} {i : Int} (n : Nat) (hi : i = n) (hn : n < x.size) (h : q (.v (.int .u8 ((x.get! n).toNat : Int)))) : NeedQ X.P s (Instr.index S (.string x) (.int k i)) q := by
  subst hi
  refine ⟨_, fun w _ => ?_, h⟩
  obtain ⟨_, sz, by', z⟩ := ti
  dsimp only at hk
  subst hk
  have hu := (Good.und hX ht).2
  have hun : X.P.underlying S = some .string := by rw [show X.P.underlying S = _ from hu]
  rw [run_index_string w S x k n hun, dif_pos ⟨Int.natCast_nonneg _, by omega⟩]
  rw [← get_bang hn]
  rfl
end
/-! ### ranging over runes -/
theorem rangeSt {X : Ctx} (hX : X.Good) {s : List Ch} {S : Nat} {ti : TI} (ht : tget X.tt S = some ti) (hk : ti.k = .str) {x : ByteArray} {q : TV → List Ch → Prop} (h : ∀ b, q (.v (.pointer (some ⟨b, 0, none⟩))) (s ++ [.hp (Hp.one b (.stringIter x 0))])) : NeedE X.P s (Instr.range S (.string x)) q := by
  obtain ⟨_, sz, by', z⟩ := ti
  dsimp only at hk
  subst hk
  have hu := (Good.und hX ht).2
  refine ⟨fun w0 w hok => ⟨_, _, w.alloc (.stringIter x 0), _, ?_, hok.alloc (.hp (Hp.one w.heap.size (.stringIter x 0))) _ rfl, ?_, rfl, h w.heap.size⟩⟩
  · have hun : (underlying S).run X.P w = .ok .string w := by simp [underlying, show X.P.underlying S = _ from hu]
    simp only [Instr.range, Sem.run_bind, hun, Result.andThen_ok, Sem.run_pure]
    simp [newObj]
    rfl
  · exact Keep.app _ _
theorem nextSt {P : Program} {s : List Ch} {ty i b : Nat} {x : ByteArray} {pos : Nat} (hi : sget s i = some (.hp (Hp.one b (.stringIter x pos)))) {q : TV → List Ch → Prop}
    (h1 : pos < x.size → q (.v (.tuple #[.bool true, .int .i64 pos, .int .i32 (Utf8.decode x pos).1])) (sset s i (.hp (Hp.one b (.stringIter x (pos + (Utf8.decode x pos).2))))))
    (h2 : ¬ pos < x.size → q (.v (.tuple #[.bool false])) s) : NeedE P s (Instr.next (.pointer (some ⟨b, 0, none⟩)) true ty) q := by
  refine ⟨fun w0 w hok => ?_⟩
  have hb : w.heap[b]? = some (.stringIter x pos) := hok.mem i _ hi _ _ (Hp.one_self _ _)
  have hg : (getObj b).run P w = .ok (.stringIter x pos) w := by simp [getObj, Sem.run, hb]
  by_cases hp : pos < x.size
  · have hok2 := hok.putObj hi (Hp.one_self _ _) (.stringIter x (pos + (Utf8.decode x pos).2))
    rw [one_upd] at hok2
    refine ⟨_, _, _, _, ?_, hok2, Keep.set hi (fun b cs T e => by cases e), rfl, h1 hp⟩
    have hs : (setObj b (.stringIter x (pos + (Utf8.decode x pos).2))).run P w = .ok () (w.putObj b (.stringIter x (pos + (Utf8.decode x pos).2))) := by simp [setObj, Sem.run, hb, World.putObj]
    simp only [Instr.next, Sem.run_bind, hg, Result.andThen_ok, if_pos hp]
    rw [hs]
    rfl
  · refine ⟨_, _, w, s, ?_, hok, Keep.refl s, rfl, h2 hp⟩
    simp only [Instr.next, Sem.run_bind, hg, Result.andThen_ok, if_neg hp]
    rfl
theorem decode_low {x : ByteArray} {i : Nat} (h : (x.get! i).toNat < 128) : Utf8.decode x i = ((x.get! i).toNat, 1) := by
  rw [Lib.decode_at]; unfold Lib.decodeN; rw [if_pos h]
theorem decode_high {x : ByteArray} {i : Nat} (h : 128 ≤ (x.get! i).toNat) : 128 ≤ (Utf8.decode x i).1 := by
  rw [Lib.decode_at]; unfold Lib.decodeN
  rw [if_neg (by omega)]
  repeat' split
  all_goals (dsimp only; omega)
end Go.Dw
namespace Go.Dw
open Go Go.RowKit
structure Tk where
  nm : ByteArray
  du : Int
  tl : ByteArray
  af : List Int
structure Sn where
  nm : ByteArray
  ts : List ByteArray
instance : Inhabited Tk := ⟨⟨ByteArray.empty, 0, ByteArray.empty, []⟩⟩
instance : Inhabited Sn := ⟨⟨ByteArray.empty, []⟩⟩
def fS (s : ByteArray) : List Value := [.string s]
def encT : Enc Tk := fun h t cs => ∃ a n c, cs = [.string t.nm, .int .i64 t.du, .string t.tl, .slice a n c] ∧ Sl (encF fI) 1 h a n c t.af
def encN : Enc Sn := fun h t cs => ∃ a n c, cs = [.string t.nm, .slice a n c] ∧ Sl (encF fS) 1 h a n c t.ts
theorem encT_mono : ∀ h k t cs, h.le k → encT h t cs → encT k t cs := fun _ _ _ _ l ⟨a, n, c, e, hs⟩ => ⟨a, n, c, e, hs.mono (encF_mono _) l⟩
theorem encN_mono : ∀ h k t cs, h.le k → encN h t cs → encN k t cs := fun _ _ _ _ l ⟨a, n, c, e, hs⟩ => ⟨a, n, c, e, hs.mono (encF_mono _) l⟩
end Go.Dw
namespace Go.Proofs.YtnlkffccobdbjaaGreat
open Go Go.RowKit Go.Dw
/-! ### What task.Check says -/
def nmOk (s : ByteArray) : Bool := decide (0 < s.size) && decide (s.size ≤ 40) && (List.range s.size).all fun i => decide (33 ≤ (s.get! i).toNat) && decide ((s.get! i).toNat ≤ 126)
/-- the first error of some that are numbered -/
def firstE (f : Nat → Int) (n : Nat) : Option Int := ((List.range n).map f).find? (fun e => decide (e ≠ 0))
theorem firstE_hit {f : Nat → Int} {n k : Nat} (hk : k < n) (ho : ∀ j, j < k → f j = 0) (h : f k ≠ 0) : firstE f n = some (f k) := by
  unfold firstE
  rw [List.find?_map, Option.map_eq_some_iff]
  refine ⟨k, ?_, rfl⟩
  rw [List.find?_range_eq_some]
  exact ⟨decide_eq_true h, List.mem_range.2 hk, fun j hj => by simp [ho j hj]⟩
theorem firstE_none {f : Nat → Int} {n : Nat} (ho : ∀ j, j < n → f j = 0) : firstE f n = none := by
  unfold firstE
  rw [List.find?_eq_none]
  intro x hx
  obtain ⟨j, hj, rfl⟩ := List.mem_map.1 hx
  rw [ho j (List.mem_range.1 hj)]; decide
/-- the error of the After of a task: n tasks, task i, from place k on -/
def afE (n i : Int) (A : List Int) (k : Nat) : Int := match A[k]? with
  | none => 0
  | some x => if x < 0 ∨ x ≥ n then 2 else if x = i then 17 else if 0 < k ∧ A.getD (k - 1) 0 ≥ x then 8 else 0
def afF (n i : Int) (A : List Int) : Int := (firstE (afE n i A) A.length).getD 0
def taskE (TT : List Tk) (i : Nat) : Int :=
  let t := TT.getD i default
  if nmOk t.nm = false then 11 else if (TT.take i).any (fun x => decide (x.nm = t.nm)) then 9 else if t.du < 1 ∨ t.du > 1048576 then 2
  else if t.tl ≠ ByteArray.empty ∧ nmOk t.tl = false then 11 else afF TT.length i t.af
def tlE (A : List ByteArray) (k : Nat) : Int := match A[k]? with
  | none => 0
  | some x => if nmOk x = false then 11 else if 0 < k ∧ sLt (A.getD (k - 1) ByteArray.empty) x = false then 8 else 0
def tlF (A : List ByteArray) : Int := (firstE (tlE A) A.length).getD 0
def statE (SS : List Sn) (i : Nat) : Int :=
  let t := SS.getD i default
  if nmOk t.nm = false then 11 else if (SS.take i).any (fun x => decide (x.nm = t.nm)) then 9 else if t.ts.length > 16 then 6 else tlF t.ts
/-- the first task that is not done, but all of its After -/
def rdyT (TT : List Tk) (done : List Nat) (i : Nat) : Bool := !decide (i ∈ done) && (TT.getD i default).af.all fun x => decide (x.toNat ∈ done)
def nxtT (TT : List Tk) (done : List Nat) : Option Nat := (List.range TT.length).find? (rdyT TT done)
def ordT (TT : List Tk) : Nat → List Nat
  | 0 => []
  | k + 1 => match nxtT TT (ordT TT k) with
    | some i => ordT TT k ++ [i]
    | none => ordT TT k
def ordF (TT : List Tk) : List Nat := ordT TT TT.length
/-- can a station do what needs a tool? -/
def canS (t : ByteArray) (s : Sn) : Bool := decide (t = ByteArray.empty) || s.ts.any fun x => decide (x = t)
def shopE (TT : List Tk) (SS : List Sn) : Int :=
  if TT.length > 24 ∨ SS.length > 8 then 6 else
  match firstE (taskE TT) TT.length with
  | some e => e
  | none => if (ordF TT).length < TT.length then 30 else
    match firstE (statE SS) SS.length with
    | some e => e
    | none => if TT.any (fun t => !SS.any (canS t.tl)) then 10 else 0
end Go.Proofs.YtnlkffccobdbjaaGreat
namespace Go.Proofs.YtnlkffccobdbjaaGreat
open Go Go.RowKit Go.Dw
theorem qEqB {s : List Ch} {xo yo : Operand} {x y : Bool} {q : TV → Prop} (h : q (.v (.bool (x == y)))) :
    NeedQ Tryz.prog s (do eqGuard .eql 4 xo yo (.bool x) (.bool y); binOp .eql 4 (.bool x) (.bool y)) q := by
  refine ⟨_, fun w _ => ?_, h⟩
  have hun : (underlying 4).run Tryz.prog w = .ok .bool w := by simp [underlying, Tryz.underlying4]
  have hg : (eqGuard .eql 4 xo yo (.bool x) (.bool y)).run Tryz.prog w = .ok () w := by simp [eqGuard]
  rw [Sem.run_bind, hg]
  simp only [Result.andThen_ok, binOp, Sem.run_bind]
  unfold Op.equal Op.maxDepth
  rw [show (10000 : Nat) = 9999 + 1 from rfl]
  unfold Op.equalIn
  simp only [Sem.run_bind, hun, Result.andThen_ok]
  rfl
def idxR (p : Int → Bool) (x : ByteArray) : Int := match (List.range x.size).find? (fun i => p ((x.get! i).toNat : Int)) with
  | some i => i
  | none => -1
theorem idxR_hit {p : Int → Bool} {x : ByteArray} {k : Nat} (hk : k < x.size) (ho : ∀ i, i < k → p ((x.get! i).toNat : Int) = false) (h : p ((x.get! k).toNat : Int) = true) : idxR p x = k := by
  unfold idxR
  have : (List.range x.size).find? (fun i => p ((x.get! i).toNat : Int)) = some k := by
    rw [List.find?_range_eq_some]
    exact ⟨h, List.mem_range.2 hk, fun j hj => by rw [ho j hj]; rfl⟩
  rw [this]
theorem idxR_none {p : Int → Bool} {x : ByteArray} (ho : ∀ i, i < x.size → p ((x.get! i).toNat : Int) = false) : idxR p x = -1 := by
  unfold idxR
  have : (List.range x.size).find? (fun i => p ((x.get! i).toNat : Int)) = none := by
    rw [List.find?_eq_none]
    intro i hi
    rw [ho i (List.mem_range.1 hi)]; simp
  rw [this]
theorem indexFunc_spec (g : Nat) (p : Int → Bool) (x : ByteArray) (w : World) (hp : ∀ w' (r : Int), CallsE Tryz.prog g #[.int .i32 r] w' (RetV w' (.bool (p r)))) (hh : ∀ r : Int, 128 ≤ r → p r = true) :
    CallsE Tryz.prog 177 #[.string x, .func (.func g) #[] #[], .bool true] w (RetV w (.int .i64 (idxR p x))) := by
  refine enter (X := cx 21) (cxg _) (args := [.string x, .func (.func g) #[] #[], .bool true]) [.tmp 6] Tryz.func177 rfl rfl rfl rfl rfl ?_
  refine rangeSt (cxg _) rfl rfl fun b => ?_
  refine NeedL.mk Nat (fun _ => [(1, .v (.func (.func g) #[] #[])), (2, .v (.bool true)), (10, .v (.pointer (some ⟨b, 0, none⟩)))]) (fun k => [.hp (Hp.whole w), .hp (Hp.one b (.stringIter x k))])
    (fun k => k ≤ x.size ∧ ∀ i, i < k → p ((x.get! i).toNat : Int) = false) (fun k => x.size - k) 0 ⟨Nat.zero_le _, fun i hi => by omega⟩ (Ent.mk (fun _ _ h => h) rfl rfl) ?_
  rintro k ⟨hk, ho⟩
  refine nextSt (i := 1) rfl (fun hlt => ?_) (fun hge => ?_)
  · obtain ⟨r, hr⟩ : ∃ r : Int, r = ((Utf8.decode x k).1 : Nat) := ⟨_, rfl⟩
    refine callV (.bool (p r)) (fun w' hm => by rw [hr]; exact hp w' _) ?_
    refine qEqB ?_
    have hb : 128 ≤ (x.get! k).toNat → p r = true := fun h => hh r (by have := Dw.decode_high (x := x) (i := k) h; omega)
    have hl : (x.get! k).toNat < 128 → Utf8.decode x k = ((x.get! k).toNat, 1) := Dw.decode_low
    refine bsplit (fun h => ?_) (fun h => ?_)
    · have hpr : p r = true := by simpa using h
      have : p ((x.get! k).toNat : Int) = true := by
        rcases Nat.lt_or_ge (x.get! k).toNat 128 with h1 | h1
        · rw [hl h1] at hr; rw [← hr]; exact hpr
        · exact hh _ (by omega)
      exact ⟨[], ⟨by rw [idxR_hit hlt ho this], rfl⟩, fun w' h => h.pick [0] rfl rfl⟩
    · have hpr : p r = false := by simpa using h
      have h1 : (x.get! k).toNat < 128 := by
        rcases Nat.lt_or_ge (x.get! k).toNat 128 with h1 | h1
        · exact h1
        · rw [hb h1] at hpr; cases hpr
      rw [hl h1] at hr ⊢
      have hr' : r = ((x.get! k).toNat : Int) := hr
      rw [hr'] at hpr
      exact ⟨k + 1, ⟨by omega, fun i hi => by
        rcases Nat.lt_or_ge i k with h2 | h2
        · exact ho i h2
        · have : i = k := by omega
          subst this; exact hpr⟩, by omega, Ent.mk (fun _ _ h => h) rfl rfl⟩
  · exact ⟨[], ⟨by rw [idxR_none fun i hi => ho i (by omega)], rfl⟩, fun w' h => h.pick [0] rfl rfl⟩
theorem strIndexFunc_spec (g : Nat) (p : Int → Bool) (x : ByteArray) (w : World) (hp : ∀ w' (r : Int), CallsE Tryz.prog g #[.int .i32 r] w' (RetV w' (.bool (p r)))) (hh : ∀ r : Int, 128 ≤ r → p r = true) :
    CallsE Tryz.prog 170 #[.string x, .func (.func g) #[] #[]] w (RetV w (.int .i64 (idxR p x))) := by
  refine enter (X := cx 8) (cxg _) (args := [.string x, .func (.func g) #[] #[]]) [.tmp 4] Tryz.func170 rfl rfl rfl rfl rfl ?_
  refine callV _ (fun w' _ => indexFunc_spec g p x w' hp hh) ?_
  exact ⟨[], ⟨rfl, rfl⟩, fun w' h => h⟩
theorem idxR_has (p : Int → Bool) (x : ByteArray) : decide (idxR p x ≥ 0) = (List.range x.size).any fun i => p ((x.get! i).toNat : Int) := by
  unfold idxR
  cases h : (List.range x.size).find? (fun i => p ((x.get! i).toNat : Int)) with
  | none =>
    rw [List.find?_eq_none] at h
    symm
    rw [decide_eq_false (by decide), List.any_eq_false]
    intro i hi; exact h i hi
  | some i =>
    have := List.find?_some h
    have hm := List.mem_of_find?_eq_some h
    dsimp only
    rw [decide_eq_true (by omega)]
    symm
    rw [List.any_eq_true]
    exact ⟨i, hm, this⟩
theorem strContainsFunc_spec (g : Nat) (p : Int → Bool) (x : ByteArray) (w : World) (hp : ∀ w' (r : Int), CallsE Tryz.prog g #[.int .i32 r] w' (RetV w' (.bool (p r)))) (hh : ∀ r : Int, 128 ≤ r → p r = true) :
    CallsE Tryz.prog 153 #[.string x, .func (.func g) #[] #[]] w (RetV w (.bool ((List.range x.size).any fun i => p ((x.get! i).toNat : Int)))) := by
  rw [← idxR_has]
  refine enter (X := cx 9) (cxg _) (args := [.string x, .func (.func g) #[] #[]]) [.tmp 4] Tryz.func153 rfl rfl rfl rfl rfl ?_
  refine callV _ (fun w' _ => strIndexFunc_spec g p x w' hp hh) ?_
  exact ⟨[], ⟨rfl, rfl⟩, fun w' h => h⟩
def badR (r : Int) : Bool := decide (r < 33) || decide (r > 126)
theorem name1_spec (r : Int) (w : World) : CallsE Tryz.prog 154 #[.int .i32 r] w (RetV w (.bool (badR r))) := by
  refine enter (X := cx 9) (cxg _) (args := [.int .i32 r]) [.tmp 2] Tryz.func154 rfl rfl rfl rfl rfl ?_
  refine bsplitd (fun h => ?_) (fun h => ?_)
  · exact ⟨[], ⟨by unfold badR; rw [decide_eq_true h]; rfl, rfl⟩, fun w' h => h⟩
  · exact ⟨[], ⟨by unfold badR; rw [decide_eq_false h]; rfl, rfl⟩, fun w' h => h⟩
theorem nmOk_any (x : ByteArray) : nmOk x = (decide (0 < x.size) && decide (x.size ≤ 40) && !(List.range x.size).any fun i => badR ((x.get! i).toNat : Int)) := by
  unfold nmOk
  congr 1
  rw [List.not_any_eq_all_not]
  congr 1
  funext i
  unfold badR
  rw [Bool.not_or, ← decide_not, ← decide_not]
  congr 1
  · exact decide_eq_decide.2 (by omega)
  · exact decide_eq_decide.2 (by omega)
theorem taskName_spec (x : ByteArray) (w : World) : CallsE Tryz.prog 123 #[.string x] w (RetV w (.bool (nmOk x))) := by
  have hn := nmOk_any x
  refine enter (X := cx 16) (cxg _) (args := [.string x]) [.tmp 2] Tryz.func123 rfl rfl rfl rfl rfl ?_
  refine bsplitd (fun h1 => ?_) (fun h1 => ?_)
  · refine bsplitd (fun h2 => ?_) (fun h2 => ?_)
    · refine callV _ (fun w' _ => strContainsFunc_spec 154 badR x w' (fun w2 r => name1_spec r w2) (fun r h => by unfold badR; rw [decide_eq_true (show r > 126 by omega), Bool.or_true])) ?_
      exact ⟨[], ⟨by rw [hn, decide_eq_true (by omega), decide_eq_true (by omega)]; rfl, rfl⟩, fun w' h => h⟩
    · exact ⟨[], ⟨by rw [hn, decide_eq_false (show ¬ x.size ≤ 40 by omega), Bool.and_false, Bool.false_and], rfl⟩, fun w' h => h⟩
  · exact ⟨[], ⟨by rw [hn, decide_eq_false (show ¬ 0 < x.size by omega), Bool.false_and, Bool.false_and], rfl⟩, fun w' h => h⟩
end Go.Proofs.YtnlkffccobdbjaaGreat
namespace Go.Proofs.YtnlkffccobdbjaaGreat
open Go Go.RowKit Go.Dw
theorem indexFuncTk_spec {a : Option Addr} {n c : Nat} {L : List Tk} (g : Nat) (cv : Value) (p : Tk → Bool) (w : World) (hL : Sl encT 4 (Hp.whole w) a n c L) (hn : n < 1000000000)
    (hp : ∀ w', (Hp.whole w).In w' → ∀ x ∈ L, ∀ (a : Option Addr) (n c : Nat), CallsE Tryz.prog g #[.agg #[.string x.nm, .int .i64 x.du, .string x.tl, .slice a n c], cv] w' (RetV w' (.bool (p x)))) :
    CallsE Tryz.prog 155 #[.slice a n c, .func (.func g) #[] #[cv]] w (RetV w (.int .i64 (idxBy p L))) := by
  have hlen := hL.len
  refine enter (X := cx 19) (cxg _) (args := [.slice a n c, .func (.func g) #[] #[cv]]) [.tmp 4] Tryz.func155 rfl rfl rfl rfl rfl ?_
  refine NeedL.mk Nat (fun k => [(0, .v (.slice a n c)), (1, .v (.func (.func g) #[] #[cv])), (7, .v (.int .i64 n)), (8, .v (.int .i64 k))]) (fun _ => [.hp (Hp.whole w)])
    (fun k => k ≤ n ∧ ∀ y ∈ L.take k, p y = false) (fun k => n - k) 0 ⟨Nat.zero_le _, by simp⟩ (Ent.mk (fun _ _ h => h) rfl rfl) ?_
  rintro k ⟨hk, ho⟩
  refine bsplitd (fun hlt => ?_) (fun hge => ?_)
  · have hlt' : k < L.length := by omega
    refine idx (cxg _) (e := 64) rfl hL k rfl hlt' (fun b o cs hcs hR hcell => ?_)
    obtain ⟨a3, n3, c3, rfl, hs3⟩ := hR
    refine ldn (cxg _) (i := 0) rfl hcell rfl ?_
    refine callV (.bool (p L[k])) (fun w' hm => hp w' (hm 0 _ rfl) L[k] (List.getElem_mem hlt') a3 n3 c3) ?_
    refine bsplit (fun hb => ?_) (fun hb => ?_)
    · exact ⟨[], ⟨by rw [idxBy_hit p L k hlt' ho hb], rfl⟩, fun w' h => h.pick [0] rfl rfl⟩
    · refine nw (by omega) (by omega) ?_
      exact ⟨k + 1, ⟨by omega, take_all_step hlt' ho hb⟩, by omega, Ent.mk (fun _ _ h => h) rfl rfl⟩
  · exact ⟨[], ⟨by rw [idxBy_none p L k (by omega) ho], rfl⟩, fun w' h => h.pick [0] rfl rfl⟩
theorem containsFuncTk_spec {a : Option Addr} {n c : Nat} {L : List Tk} (g : Nat) (cv : Value) (p : Tk → Bool) (w : World) (hL : Sl encT 4 (Hp.whole w) a n c L) (hn : n < 1000000000)
    (hp : ∀ w', (Hp.whole w).In w' → ∀ x ∈ L, ∀ (a : Option Addr) (n c : Nat), CallsE Tryz.prog g #[.agg #[.string x.nm, .int .i64 x.du, .string x.tl, .slice a n c], cv] w' (RetV w' (.bool (p x)))) :
    CallsE Tryz.prog 124 #[.slice a n c, .func (.func g) #[] #[cv]] w (RetV w (.bool (L.any p))) := by
  refine enter (X := cx 9) (cxg _) (args := [.slice a n c, .func (.func g) #[] #[cv]]) [.tmp 4] Tryz.func124 rfl rfl rfl rfl rfl ?_
  refine call (fun w' hm => indexFuncTk_spec g cv p w' (hL.mono encT_mono (hm 0 _ rfl)) hn (fun w2 h2 => hp w2 (h2.le (hm 0 _ rfl)))) ?_
  rintro _ _ ⟨rfl, rfl⟩
  exact ⟨[], ⟨by rw [← idxBy_any], rfl⟩, fun w' h => h⟩
theorem indexFuncSn_spec {a : Option Addr} {n c : Nat} {L : List Sn} (g : Nat) (cv : Value) (p : Sn → Bool) (w : World) (hL : Sl encN 2 (Hp.whole w) a n c L) (hn : n < 1000000000)
    (hp : ∀ w', (Hp.whole w).In w' → ∀ x ∈ L, ∀ (a : Option Addr) (n c : Nat), CallsE Tryz.prog g #[.agg #[.string x.nm, .slice a n c], cv] w' (RetV w' (.bool (p x)))) :
    CallsE Tryz.prog 156 #[.slice a n c, .func (.func g) #[] #[cv]] w (RetV w (.int .i64 (idxBy p L))) := by
  have hlen := hL.len
  refine enter (X := cx 19) (cxg _) (args := [.slice a n c, .func (.func g) #[] #[cv]]) [.tmp 4] Tryz.func156 rfl rfl rfl rfl rfl ?_
  refine NeedL.mk Nat (fun k => [(0, .v (.slice a n c)), (1, .v (.func (.func g) #[] #[cv])), (7, .v (.int .i64 n)), (8, .v (.int .i64 k))]) (fun _ => [.hp (Hp.whole w)])
    (fun k => k ≤ n ∧ ∀ y ∈ L.take k, p y = false) (fun k => n - k) 0 ⟨Nat.zero_le _, by simp⟩ (Ent.mk (fun _ _ h => h) rfl rfl) ?_
  rintro k ⟨hk, ho⟩
  refine bsplitd (fun hlt => ?_) (fun hge => ?_)
  · have hlt' : k < L.length := by omega
    refine idx (cxg _) (e := 60) rfl hL k rfl hlt' (fun b o cs hcs hR hcell => ?_)
    obtain ⟨a3, n3, c3, rfl, hs3⟩ := hR
    refine ldn (cxg _) (i := 0) rfl hcell rfl ?_
    refine callV (.bool (p L[k])) (fun w' hm => hp w' (hm 0 _ rfl) L[k] (List.getElem_mem hlt') a3 n3 c3) ?_
    refine bsplit (fun hb => ?_) (fun hb => ?_)
    · exact ⟨[], ⟨by rw [idxBy_hit p L k hlt' ho hb], rfl⟩, fun w' h => h.pick [0] rfl rfl⟩
    · refine nw (by omega) (by omega) ?_
      exact ⟨k + 1, ⟨by omega, take_all_step hlt' ho hb⟩, by omega, Ent.mk (fun _ _ h => h) rfl rfl⟩
  · exact ⟨[], ⟨by rw [idxBy_none p L k (by omega) ho], rfl⟩, fun w' h => h.pick [0] rfl rfl⟩
theorem containsFuncSn_spec {a : Option Addr} {n c : Nat} {L : List Sn} (g : Nat) (cv : Value) (p : Sn → Bool) (w : World) (hL : Sl encN 2 (Hp.whole w) a n c L) (hn : n < 1000000000)
    (hp : ∀ w', (Hp.whole w).In w' → ∀ x ∈ L, ∀ (a : Option Addr) (n c : Nat), CallsE Tryz.prog g #[.agg #[.string x.nm, .slice a n c], cv] w' (RetV w' (.bool (p x)))) :
    CallsE Tryz.prog 127 #[.slice a n c, .func (.func g) #[] #[cv]] w (RetV w (.bool (L.any p))) := by
  refine enter (X := cx 9) (cxg _) (args := [.slice a n c, .func (.func g) #[] #[cv]]) [.tmp 4] Tryz.func127 rfl rfl rfl rfl rfl ?_
  refine call (fun w' hm => indexFuncSn_spec g cv p w' (hL.mono encN_mono (hm 0 _ rfl)) hn (fun w2 h2 => hp w2 (h2.le (hm 0 _ rfl)))) ?_
  rintro _ _ ⟨rfl, rfl⟩
  exact ⟨[], ⟨by rw [← idxBy_any], rfl⟩, fun w' h => h⟩
theorem idxBy_eqS (x : ByteArray) (L : List ByteArray) : L.any (fun y => decide (x = y)) = L.any fun y => decide (y = x) := by
  congr 1; funext y; exact decide_eq_decide.2 ⟨fun h => h.symm, fun h => h.symm⟩
theorem indexStr_spec {a : Option Addr} {n c : Nat} {L : List ByteArray} (x : ByteArray) (w : World) (hL : Sl (encF fS) 1 (Hp.whole w) a n c L) (hn : n < 1000000000) :
    CallsE Tryz.prog 132 #[.slice a n c, .string x] w (RetV w (.int .i64 (idxBy (fun y => decide (x = y)) L))) := by
  have hlen := hL.len
  refine enter (X := cx 19) (cxg _) (args := [.slice a n c, .string x]) [.tmp 4] Tryz.func132 rfl rfl rfl rfl rfl ?_
  refine NeedL.mk Nat (fun k => [(0, .v (.slice a n c)), (1, .v (.string x)), (7, .v (.int .i64 n)), (8, .v (.int .i64 k))]) (fun _ => [.hp (Hp.whole w)])
    (fun k => k ≤ n ∧ ∀ y ∈ L.take k, (fun y => decide (x = y)) y = false) (fun k => n - k) 0 ⟨Nat.zero_le _, by simp⟩ (Ent.mk (fun _ _ h => h) rfl rfl) ?_
  rintro k ⟨hk, ho⟩
  refine bsplitd (fun hlt => ?_) (fun hge => ?_)
  · have hlt' : k < L.length := by omega
    refine idx (cxg _) (e := 9) rfl hL k rfl hlt' (fun b o cs hcs hR hcell => ?_)
    subst hR
    refine ld1 (cxg _) (i := 0) rfl (hcell 0 _ rfl) rfl ?_
    refine qEqS ?_
    refine bsplitd (fun hb => ?_) (fun hb => ?_)
    · exact ⟨[], ⟨by rw [idxBy_hit (fun y => decide (x = y)) L k hlt' ho (decide_eq_true hb)], rfl⟩, fun w' h => h.pick [0] rfl rfl⟩
    · refine nw (by omega) (by omega) ?_
      exact ⟨k + 1, ⟨by omega, take_all_step hlt' ho (decide_eq_false hb)⟩, by omega, Ent.mk (fun _ _ h => h) rfl rfl⟩
  · exact ⟨[], ⟨by rw [idxBy_none (fun y => decide (x = y)) L k (by omega) ho], rfl⟩, fun w' h => h.pick [0] rfl rfl⟩
theorem containsStr_spec {a : Option Addr} {n c : Nat} {L : List ByteArray} (x : ByteArray) (w : World) (hL : Sl (encF fS) 1 (Hp.whole w) a n c L) (hn : n < 1000000000) :
    CallsE Tryz.prog 109 #[.slice a n c, .string x] w (RetV w (.bool (L.any fun y => decide (y = x)))) := by
  refine enter (X := cx 9) (cxg _) (args := [.slice a n c, .string x]) [.tmp 4] Tryz.func109 rfl rfl rfl rfl rfl ?_
  refine call (fun w' hm => indexStr_spec x w' (hL.mono (encF_mono _) (hm 0 _ rfl)) hn) ?_
  rintro _ _ ⟨rfl, rfl⟩
  exact ⟨[], ⟨by rw [← idxBy_eqS, ← idxBy_any], rfl⟩, fun w' h => h⟩
end Go.Proofs.YtnlkffccobdbjaaGreat
namespace Go.Proofs.YtnlkffccobdbjaaGreat
open Go Go.RowKit Go.Dw
def sv (a : Option Addr) (n c : Nat) (a' : Option Addr) (n' c' : Nat) : Value := .agg #[.slice a n c, .slice a' n' c']
theorem task1_spec {b : Nat} {nm tl y : ByteArray} {du : Int} {a : Option Addr} {n c : Nat} (w : World) (h1 : (Hp.whole w).cell? ⟨b, 0, none⟩ = some (.string y)) :
    CallsE Tryz.prog 125 #[.agg #[.string nm, .int .i64 du, .string tl, .slice a n c], .pointer (some ⟨b, 0, none⟩)] w (RetV w (.bool (decide (nm = y)))) := by
  refine enter (X := cx 9) (cxg _) (args := [.agg #[.string nm, .int .i64 du, .string tl, .slice a n c], .pointer (some ⟨b, 0, none⟩)]) [.tmp 3] Tryz.func125 rfl rfl rfl rfl rfl ?_
  intro b2
  refine ld1 (cxg _) (i := 0) rfl h1 rfl ?_
  refine qEqS ?_
  exact ⟨[], ⟨rfl, rfl⟩, fun w' h => h.pick [0] rfl rfl⟩
theorem station1_spec {b : Nat} {nm y : ByteArray} {a : Option Addr} {n c : Nat} (w : World) (h1 : (Hp.whole w).cell? ⟨b, 0, none⟩ = some (.string y)) :
    CallsE Tryz.prog 128 #[.agg #[.string nm, .slice a n c], .pointer (some ⟨b, 0, none⟩)] w (RetV w (.bool (decide (nm = y)))) := by
  refine enter (X := cx 9) (cxg _) (args := [.agg #[.string nm, .slice a n c], .pointer (some ⟨b, 0, none⟩)]) [.tmp 3] Tryz.func128 rfl rfl rfl rfl rfl ?_
  intro b2
  refine ld1 (cxg _) (i := 0) rfl h1 rfl ?_
  refine qEqS ?_
  exact ⟨[], ⟨rfl, rfl⟩, fun w' h => h.pick [0] rfl rfl⟩
set_option maxRecDepth 10000 in
theorem taskTask_spec {a a' : Option Addr} {n c n' c' : Nat} {TT : List Tk} (i : Nat) (w : World) (hT : Sl encT 4 (Hp.whole w) a n c TT) (hi : i < TT.length) (hn : TT.length < 1000) (ha : ∀ t ∈ TT, t.af.length < 1000) :
    CallsE Tryz.prog 100 #[sv a n c a' n' c', .int .i64 i] w (RetV w (.int .i64 (taskE TT i))) := by
  have hlen := hT.len
  obtain ⟨t, ht⟩ : ∃ t, t = TT[i] := ⟨_, rfl⟩
  have htl : t.af.length < 1000 := ha _ (by rw [ht]; exact List.getElem_mem hi)
  have htd : TT.getD i default = t := by rw [List.getD_eq_getElem?_getD, List.getElem?_eq_getElem hi, ht]; rfl
  have hE : taskE TT i = if nmOk t.nm = false then 11 else if (TT.take i).any (fun x => decide (x.nm = t.nm)) then 9 else if t.du < 1 ∨ t.du > 1048576 then 2
      else if t.tl ≠ ByteArray.empty ∧ nmOk t.tl = false then 11 else afF TT.length i t.af := by unfold taskE; rw [htd]
  refine enter (X := cx 80) (cxg _) (args := [.agg #[.slice a n c, .slice a' n' c'], .int .i64 i]) [.tmp 4] Tryz.func100 rfl rfl rfl rfl rfl ?_
  intro b2
  refine idx (cxg _) (e := 64) rfl hT i rfl hi (fun b o cs hcs hR hcell => ?_)
  rw [← ht] at hR
  obtain ⟨a3, n3, c3, rfl, hs3⟩ := hR
  refine ldn (cxg _) (i := 0) rfl hcell rfl ?_
  intro b5
  refine callV _ (fun w' hm => taskName_spec t.nm w') ?_
  refine bsplit (fun h => ?_) (fun h => ?_)
  · exact ⟨[], ⟨by rw [hE, if_pos (by simpa using h)], rfl⟩, fun w' h => h.pick [0] rfl rfl⟩
  have hE : taskE TT i = if (TT.take i).any (fun x => decide (x.nm = t.nm)) then 9 else if t.du < 1 ∨ t.du > 1048576 then 2
      else if t.tl ≠ ByteArray.empty ∧ nmOk t.tl = false then 11 else afF TT.length i t.af := by rw [hE, if_neg (by simpa using h)]
  refine slS (cxg _) (e := 64) rfl hT 0 i (.inl ⟨rfl, rfl⟩) (.inr ⟨_, _, rfl, rfl⟩) (Nat.zero_le _) (by omega) fun a7 hs7 => ?_
  rw [List.drop_zero] at hs7
  refine callV _ (fun w' hm => containsFuncTk_spec 125 (.pointer (some ⟨b5, 0, none⟩)) (fun x => decide (x.nm = t.nm)) w' (hs7.mono encT_mono (hm 0 _ rfl)) (by omega) (fun w2 h2 x _ a n c => task1_spec w2 (((hm 2 _ rfl).whole.trans h2.whole).cell (by simp [Ch.h, Hp.cell?, Hp.one])))) ?_
  refine bsplit (fun h => ?_) (fun h => ?_)
  · exact ⟨[], ⟨by rw [hE, if_pos h], rfl⟩, fun w' h => h.pick [0] rfl rfl⟩
  have hE : taskE TT i = if t.du < 1 ∨ t.du > 1048576 then 2 else if t.tl ≠ ByteArray.empty ∧ nmOk t.tl = false then 11 else afF TT.length i t.af := by rw [hE, if_neg (by rw [h]; simp)]
  clear hs7
  have bad : (t.du < 1 ∨ t.du > 1048576) → taskE TT i = 2 := fun h => by rw [hE, if_pos h]
  refine bsplitd (fun h1 => ?_) (fun h1 => ?_)
  · exact ⟨[], ⟨by rw [bad (.inl h1)], rfl⟩, fun w' h => h.pick [0] rfl rfl⟩
  refine bsplitd (fun h2 => ?_) (fun h2 => ?_)
  · exact ⟨[], ⟨by rw [bad (.inr h2)], rfl⟩, fun w' h => h.pick [0] rfl rfl⟩
  have hE : taskE TT i = if t.tl ≠ ByteArray.empty ∧ nmOk t.tl = false then 11 else afF TT.length i t.af := by rw [hE, if_neg (by omega)]
  clear bad
  refine qNeS ?_
  refine bsplitd (fun h3 => ?_) (fun h3 => ?_)
  · refine callV _ (fun w' hm => taskName_spec t.tl w') ?_
    refine bsplit (fun h => ?_) (fun h => ?_)
    · exact ⟨[], ⟨by rw [hE, if_pos ⟨h3, by simpa using h⟩], rfl⟩, fun w' h => h.pick [0] rfl rfl⟩
    have hE : taskE TT i = afF TT.length i t.af := by rw [hE, if_neg (fun g => by rw [g.2] at h; simp at h)]
    have l3 := hs3.len
    have hfe : afF TT.length i t.af = (firstE (afE TT.length i t.af) t.af.length).getD 0 := rfl
    refine NeedL.mk Nat (fun k => [(1, .v (.int .i64 i)), (2, .bx 1 0), (5, .bx 2 0), (45, .v (.slice a3 n3 c3)), (46, .v (.int .i64 n3)), (47, .v (.int .i64 k))]) (fun _ => [.hp (Hp.whole w), .box b2 [.slice a n c, .slice a' n' c'] 25, .box b5 [.string t.nm, .int .i64 t.du, .string t.tl, .slice a3 n3 c3] 64])
      (fun k => k ≤ n3 ∧ ∀ j, j < k → afE TT.length i t.af j = 0) (fun k => n3 - k) 0 ⟨Nat.zero_le _, fun j hj => by omega⟩ (Ent.mk (fun _ _ h => h) rfl rfl) ?_
    rintro k ⟨hk, ho⟩
    refine bsplitd (fun hlt => ?_) (fun hge => ?_)
    · have hlt' : k < t.af.length := by omega
      obtain ⟨x, hx⟩ : ∃ x, x = t.af[k] := ⟨_, rfl⟩
      have hke : afE TT.length i t.af k = if x < 0 ∨ x ≥ (TT.length : Int) then 2 else if x = i then 17 else if 0 < k ∧ t.af.getD (k - 1) 0 ≥ x then 8 else 0 := by
        unfold afE; rw [List.getElem?_eq_getElem hlt', ← hx]
      have hit : afE TT.length i t.af k ≠ 0 → taskE TT i = afE TT.length i t.af k := fun h => by rw [hE, hfe, firstE_hit hlt' ho h]; rfl
      refine idx (cxg _) (e := 3) rfl hs3 k rfl hlt' (fun b o cs hcs hR hcell => ?_)
      subst hR
      rw [← hx] at hcell
      refine ld1 (cxg _) (i := 0) rfl (hcell 0 _ rfl) rfl ?_
      refine bsplitd (fun g1 => ?_) (fun g1 => ?_)
      · have e : afE TT.length i t.af k = 2 := by rw [hke, if_pos (.inl g1)]
        exact ⟨[], ⟨by rw [hit (by rw [e]; decide), e], rfl⟩, fun w' h => h.pick [0] rfl rfl⟩
      refine bsplitd (fun g2 => ?_) (fun g2 => ?_)
      · have e : afE TT.length i t.af k = 2 := by rw [hke, if_pos (.inr (by omega))]
        exact ⟨[], ⟨by rw [hit (by rw [e]; decide), e], rfl⟩, fun w' h => h.pick [0] rfl rfl⟩
      have hke : afE TT.length i t.af k = if x = i then 17 else if 0 < k ∧ t.af.getD (k - 1) 0 ≥ x then 8 else 0 := by rw [hke, if_neg (by omega)]
      refine bsplitd (fun g3 => ?_) (fun g3 => ?_)
      · have e : afE TT.length i t.af k = 17 := by rw [hke, if_pos g3]
        exact ⟨[], ⟨by rw [hit (by rw [e]; decide), e], rfl⟩, fun w' h => h.pick [0] rfl rfl⟩
      have hke : afE TT.length i t.af k = if 0 < k ∧ t.af.getD (k - 1) 0 ≥ x then 8 else 0 := by rw [hke, if_neg g3]
      refine bsplitd (fun g4 => ?_) (fun g4 => ?_)
      · have hk1 : k - 1 < t.af.length := by omega
        have hgd : t.af.getD (k - 1) 0 = t.af[k - 1] := by rw [List.getD_eq_getElem?_getD, List.getElem?_eq_getElem hk1]; rfl
        refine nw (by omega) (by omega) ?_
        refine idx (cxg _) (e := 3) rfl hs3 (k - 1) (by omega) hk1 (fun b o cs hcs hR hcell => ?_)
        subst hR
        refine ld1 (cxg _) (i := 0) rfl (hcell 0 _ rfl) rfl ?_
        refine bsplitd (fun g5 => ?_) (fun g5 => ?_)
        · have e : afE TT.length i t.af k = 8 := by rw [hke, if_pos ⟨by omega, by rw [hgd]; exact g5⟩]
          exact ⟨[], ⟨by rw [hit (by rw [e]; decide), e], rfl⟩, fun w' h => h.pick [0] rfl rfl⟩
        · have e : afE TT.length i t.af k = 0 := by rw [hke, if_neg (fun g => g5 (by rw [← hgd]; exact g.2))]
          refine nw (by omega) (by omega) ?_
          exact ⟨k + 1, ⟨by omega, fun j hj => by
            rcases Nat.lt_or_ge j k with h | h
            · exact ho j h
            · have : j = k := by omega
              subst this; exact e⟩, by omega, Ent.mk (fun _ _ h => h) rfl rfl⟩
      · have e : afE TT.length i t.af k = 0 := by rw [hke, if_neg (fun g => by omega)]
        refine nw (by omega) (by omega) ?_
        exact ⟨k + 1, ⟨by omega, fun j hj => by
          rcases Nat.lt_or_ge j k with h | h
          · exact ho j h
          · have : j = k := by omega
            subst this; exact e⟩, by omega, Ent.mk (fun _ _ h => h) rfl rfl⟩
    · have e : afF TT.length i t.af = 0 := by rw [hfe, firstE_none fun j hj => ho j (by omega)]; rfl
      exact ⟨[], ⟨by rw [hE, e], rfl⟩, fun w' h => h.pick [0] rfl rfl⟩
  · have hE : taskE TT i = afF TT.length i t.af := by rw [hE, if_neg (fun g => h3 g.1)]
    have l3 := hs3.len
    have hfe : afF TT.length i t.af = (firstE (afE TT.length i t.af) t.af.length).getD 0 := rfl
    refine NeedL.mk Nat (fun k => [(1, .v (.int .i64 i)), (2, .bx 1 0), (5, .bx 2 0), (45, .v (.slice a3 n3 c3)), (46, .v (.int .i64 n3)), (47, .v (.int .i64 k))]) (fun _ => [.hp (Hp.whole w), .box b2 [.slice a n c, .slice a' n' c'] 25, .box b5 [.string t.nm, .int .i64 t.du, .string t.tl, .slice a3 n3 c3] 64])
      (fun k => k ≤ n3 ∧ ∀ j, j < k → afE TT.length i t.af j = 0) (fun k => n3 - k) 0 ⟨Nat.zero_le _, fun j hj => by omega⟩ (Ent.mk (fun _ _ h => h) rfl rfl) ?_
    rintro k ⟨hk, ho⟩
    refine bsplitd (fun hlt => ?_) (fun hge => ?_)
    · have hlt' : k < t.af.length := by omega
      obtain ⟨x, hx⟩ : ∃ x, x = t.af[k] := ⟨_, rfl⟩
      have hke : afE TT.length i t.af k = if x < 0 ∨ x ≥ (TT.length : Int) then 2 else if x = i then 17 else if 0 < k ∧ t.af.getD (k - 1) 0 ≥ x then 8 else 0 := by
        unfold afE; rw [List.getElem?_eq_getElem hlt', ← hx]
      have hit : afE TT.length i t.af k ≠ 0 → taskE TT i = afE TT.length i t.af k := fun h => by rw [hE, hfe, firstE_hit hlt' ho h]; rfl
      refine idx (cxg _) (e := 3) rfl hs3 k rfl hlt' (fun b o cs hcs hR hcell => ?_)
      subst hR
      rw [← hx] at hcell
      refine ld1 (cxg _) (i := 0) rfl (hcell 0 _ rfl) rfl ?_
      refine bsplitd (fun g1 => ?_) (fun g1 => ?_)
      · have e : afE TT.length i t.af k = 2 := by rw [hke, if_pos (.inl g1)]
        exact ⟨[], ⟨by rw [hit (by rw [e]; decide), e], rfl⟩, fun w' h => h.pick [0] rfl rfl⟩
      refine bsplitd (fun g2 => ?_) (fun g2 => ?_)
      · have e : afE TT.length i t.af k = 2 := by rw [hke, if_pos (.inr (by omega))]
        exact ⟨[], ⟨by rw [hit (by rw [e]; decide), e], rfl⟩, fun w' h => h.pick [0] rfl rfl⟩
      have hke : afE TT.length i t.af k = if x = i then 17 else if 0 < k ∧ t.af.getD (k - 1) 0 ≥ x then 8 else 0 := by rw [hke, if_neg (by omega)]
      refine bsplitd (fun g3 => ?_) (fun g3 => ?_)
      · have e : afE TT.length i t.af k = 17 := by rw [hke, if_pos g3]
        exact ⟨[], ⟨by rw [hit (by rw [e]; decide), e], rfl⟩, fun w' h => h.pick [0] rfl rfl⟩
      have hke : afE TT.length i t.af k = if 0 < k ∧ t.af.getD (k - 1) 0 ≥ x then 8 else 0 := by rw [hke, if_neg g3]
      refine bsplitd (fun g4 => ?_) (fun g4 => ?_)
      · have hk1 : k - 1 < t.af.length := by omega
        have hgd : t.af.getD (k - 1) 0 = t.af[k - 1] := by rw [List.getD_eq_getElem?_getD, List.getElem?_eq_getElem hk1]; rfl
        refine nw (by omega) (by omega) ?_
        refine idx (cxg _) (e := 3) rfl hs3 (k - 1) (by omega) hk1 (fun b o cs hcs hR hcell => ?_)
        subst hR
        refine ld1 (cxg _) (i := 0) rfl (hcell 0 _ rfl) rfl ?_
        refine bsplitd (fun g5 => ?_) (fun g5 => ?_)
        · have e : afE TT.length i t.af k = 8 := by rw [hke, if_pos ⟨by omega, by rw [hgd]; exact g5⟩]
          exact ⟨[], ⟨by rw [hit (by rw [e]; decide), e], rfl⟩, fun w' h => h.pick [0] rfl rfl⟩
        · have e : afE TT.length i t.af k = 0 := by rw [hke, if_neg (fun g => g5 (by rw [← hgd]; exact g.2))]
          refine nw (by omega) (by omega) ?_
          exact ⟨k + 1, ⟨by omega, fun j hj => by
            rcases Nat.lt_or_ge j k with h | h
            · exact ho j h
            · have : j = k := by omega
              subst this; exact e⟩, by omega, Ent.mk (fun _ _ h => h) rfl rfl⟩
      · have e : afE TT.length i t.af k = 0 := by rw [hke, if_neg (fun g => by omega)]
        refine nw (by omega) (by omega) ?_
        exact ⟨k + 1, ⟨by omega, fun j hj => by
          rcases Nat.lt_or_ge j k with h | h
          · exact ho j h
          · have : j = k := by omega
            subst this; exact e⟩, by omega, Ent.mk (fun _ _ h => h) rfl rfl⟩
    · have e : afF TT.length i t.af = 0 := by rw [hfe, firstE_none fun j hj => ho j (by omega)]; rfl
      exact ⟨[], ⟨by rw [hE, e], rfl⟩, fun w' h => h.pick [0] rfl rfl⟩
end Go.Proofs.YtnlkffccobdbjaaGreat
namespace Go.Proofs.YtnlkffccobdbjaaGreat
open Go Go.RowKit Go.Dw
set_option maxRecDepth 10000 in
theorem taskStation_spec {a a' : Option Addr} {n c n' c' : Nat} {SS : List Sn} (i : Nat) (w : World) (hS : Sl encN 2 (Hp.whole w) a' n' c' SS) (hi : i < SS.length) (hn : SS.length < 1000) (ha : ∀ t ∈ SS, t.ts.length < 1000) :
    CallsE Tryz.prog 102 #[sv a n c a' n' c', .int .i64 i] w (RetV w (.int .i64 (statE SS i))) := by
  have hlen := hS.len
  obtain ⟨t, ht⟩ : ∃ t, t = SS[i] := ⟨_, rfl⟩
  have htl : t.ts.length < 1000 := ha _ (by rw [ht]; exact List.getElem_mem hi)
  have htd : SS.getD i default = t := by rw [List.getD_eq_getElem?_getD, List.getElem?_eq_getElem hi, ht]; rfl
  have hE : statE SS i = if nmOk t.nm = false then 11 else if (SS.take i).any (fun x => decide (x.nm = t.nm)) then 9 else if t.ts.length > 16 then 6 else tlF t.ts := by unfold statE; rw [htd]
  refine enter (X := cx 54) (cxg _) (args := [.agg #[.slice a n c, .slice a' n' c'], .int .i64 i]) [.tmp 4] Tryz.func102 rfl rfl rfl rfl rfl ?_
  intro b2
  refine idx (cxg _) (e := 60) rfl hS i rfl hi (fun b o cs hcs hR hcell => ?_)
  rw [← ht] at hR
  obtain ⟨a3, n3, c3, rfl, hs3⟩ := hR
  have l3 := hs3.len
  refine ldn (cxg _) (i := 0) rfl hcell rfl ?_
  intro b5
  refine callV _ (fun w' hm => taskName_spec t.nm w') ?_
  refine bsplit (fun h => ?_) (fun h => ?_)
  · exact ⟨[], ⟨by rw [hE, if_pos (by simpa using h)], rfl⟩, fun w' h => h.pick [0] rfl rfl⟩
  have hE : statE SS i = if (SS.take i).any (fun x => decide (x.nm = t.nm)) then 9 else if t.ts.length > 16 then 6 else tlF t.ts := by rw [hE, if_neg (by simpa using h)]
  refine slS (cxg _) (e := 60) rfl hS 0 i (.inl ⟨rfl, rfl⟩) (.inr ⟨_, _, rfl, rfl⟩) (Nat.zero_le _) (by omega) fun a7 hs7 => ?_
  rw [List.drop_zero] at hs7
  refine callV _ (fun w' hm => containsFuncSn_spec 128 (.pointer (some ⟨b5, 0, none⟩)) (fun x => decide (x.nm = t.nm)) w' (hs7.mono encN_mono (hm 0 _ rfl)) (by omega) (fun w2 h2 x _ a n c => station1_spec w2 (((hm 2 _ rfl).whole.trans h2.whole).cell (by simp [Ch.h, Hp.cell?, Hp.one])))) ?_
  refine bsplit (fun h => ?_) (fun h => ?_)
  · exact ⟨[], ⟨by rw [hE, if_pos h], rfl⟩, fun w' h => h.pick [0] rfl rfl⟩
  have hE : statE SS i = if t.ts.length > 16 then 6 else tlF t.ts := by rw [hE, if_neg (by rw [h]; simp)]
  clear hs7
  refine bsplitd (fun h1 => ?_) (fun h1 => ?_)
  · exact ⟨[], ⟨by rw [hE, if_pos (by omega)], rfl⟩, fun w' h => h.pick [0] rfl rfl⟩
  have hE : statE SS i = tlF t.ts := by rw [hE, if_neg (by omega)]
  have hfe : tlF t.ts = (firstE (tlE t.ts) t.ts.length).getD 0 := rfl
  refine NeedL.mk Nat (fun k => [(5, .bx 2 0), (31, .v (.slice a3 n3 c3)), (32, .v (.int .i64 n3)), (33, .v (.int .i64 k))]) (fun _ => [.hp (Hp.whole w), .box b2 [.slice a n c, .slice a' n' c'] 25, .box b5 [.string t.nm, .slice a3 n3 c3] 60])
    (fun k => k ≤ n3 ∧ ∀ j, j < k → tlE t.ts j = 0) (fun k => n3 - k) 0 ⟨Nat.zero_le _, fun j hj => by omega⟩ (Ent.mk (fun _ _ h => h) rfl rfl) ?_
  rintro k ⟨hk, ho⟩
  refine bsplitd (fun hlt => ?_) (fun hge => ?_)
  · have hlt' : k < t.ts.length := by omega
    obtain ⟨x, hx⟩ : ∃ x, x = t.ts[k] := ⟨_, rfl⟩
    have hke : tlE t.ts k = if nmOk x = false then 11 else if 0 < k ∧ sLt (t.ts.getD (k - 1) ByteArray.empty) x = false then 8 else 0 := by
      unfold tlE; rw [List.getElem?_eq_getElem hlt', ← hx]
    have hit : tlE t.ts k ≠ 0 → statE SS i = tlE t.ts k := fun h => by rw [hE, hfe, firstE_hit hlt' ho h]; rfl
    refine idx (cxg _) (e := 9) rfl hs3 k rfl hlt' (fun b o cs hcs hR hcell => ?_)
    subst hR
    rw [← hx] at hcell
    refine ld1 (cxg _) (i := 0) rfl (hcell 0 _ rfl) rfl ?_
    refine callV _ (fun w' hm => taskName_spec x w') ?_
    refine bsplit (fun h => ?_) (fun h => ?_)
    · have e : tlE t.ts k = 11 := by rw [hke, if_pos (by simpa using h)]
      exact ⟨[], ⟨by rw [hit (by rw [e]; decide), e], rfl⟩, fun w' h => h.pick [0] rfl rfl⟩
    have hke : tlE t.ts k = if 0 < k ∧ sLt (t.ts.getD (k - 1) ByteArray.empty) x = false then 8 else 0 := by rw [hke, if_neg (by simpa using h)]
    refine bsplitd (fun g4 => ?_) (fun g4 => ?_)
    · have hk1 : k - 1 < t.ts.length := by omega
      have hgd : t.ts.getD (k - 1) ByteArray.empty = t.ts[k - 1] := by rw [List.getD_eq_getElem?_getD, List.getElem?_eq_getElem hk1]; rfl
      refine nw (by omega) (by omega) ?_
      refine idx (cxg _) (e := 9) rfl hs3 (k - 1) (by omega) hk1 (fun b o cs hcs hR hcell => ?_)
      subst hR
      refine ld1 (cxg _) (i := 0) rfl (hcell 0 _ rfl) rfl ?_
      refine qGeS ?_
      refine bsplit (fun g5 => ?_) (fun g5 => ?_)
      · have e : tlE t.ts k = 8 := by rw [hke, if_pos ⟨by omega, by rw [hgd]; simpa using g5⟩]
        exact ⟨[], ⟨by rw [hit (by rw [e]; decide), e], rfl⟩, fun w' h => h.pick [0] rfl rfl⟩
      · have e : tlE t.ts k = 0 := by rw [hke, if_neg (fun g => by rw [hgd] at g; rw [g.2] at g5; simp at g5)]
        refine nw (by omega) (by omega) ?_
        exact ⟨k + 1, ⟨by omega, fun j hj => by
          rcases Nat.lt_or_ge j k with h | h
          · exact ho j h
          · have : j = k := by omega
            subst this; exact e⟩, by omega, Ent.mk (fun _ _ h => h) rfl rfl⟩
    · have e : tlE t.ts k = 0 := by rw [hke, if_neg (fun g => by omega)]
      refine nw (by omega) (by omega) ?_
      exact ⟨k + 1, ⟨by omega, fun j hj => by
        rcases Nat.lt_or_ge j k with h | h
        · exact ho j h
        · have : j = k := by omega
          subst this; exact e⟩, by omega, Ent.mk (fun _ _ h => h) rfl rfl⟩
  · have e : tlF t.ts = 0 := by rw [hfe, firstE_none fun j hj => ho j (by omega)]; rfl
    exact ⟨[], ⟨by rw [hE, e], rfl⟩, fun w' h => h.pick [0] rfl rfl⟩
end Go.Proofs.YtnlkffccobdbjaaGreat
namespace Go.Proofs.YtnlkffccobdbjaaGreat
open Go Go.RowKit Go.Dw
theorem sub_len_of {α : Type} [DecidableEq α] : ∀ {L M : List α}, L.Nodup → (∀ x ∈ L, x ∈ M) → L.length ≤ M.length
  | [], _, _, _ => Nat.zero_le _
  | x :: r, M, hn, h => by
    rw [List.nodup_cons] at hn
    have hx := h x (by simp)
    have := sub_len_of (L := r) (M := M.erase x) hn.2 fun y hy => (List.mem_erase_of_ne (fun e => hn.1 (by rw [← e]; exact hy))).2 (h y (by simp [hy]))
    rw [List.length_erase_of_mem hx] at this
    have := List.length_pos_of_mem hx
    rw [List.length_cons]; omega
def dnL (N : Nat) (out : List Nat) : List Bool := (List.range N).map fun v => decide (v ∈ out)
theorem dnL_len (N : Nat) (out : List Nat) : (dnL N out).length = N := by unfold dnL; simp
theorem dnL_get {N : Nat} {out : List Nat} {i : Nat} (h : i < (dnL N out).length) : (dnL N out)[i] = decide (i ∈ out) := by
  have hN : i < N := by rw [dnL_len] at h; exact h
  have : (dnL N out)[i]? = some (decide (i ∈ out)) := by unfold dnL; rw [List.getElem?_map, List.getElem?_range hN]; rfl
  rw [List.getElem?_eq_getElem h] at this
  exact Option.some.inj this
theorem dnL_set {N i : Nat} (out : List Nat) : (dnL N out).set i true = dnL N (out ++ [i]) := by
  apply List.ext_getElem
  · simp [dnL]
  · intro j h1 h2
    rw [List.getElem_set, dnL_get h2]
    split
    · rename_i e; subst e; simp
    · rename_i e
      have h3 : j < (dnL N out).length := by simpa using h1
      rw [dnL_get h3, decide_eq_decide]
      simp
      omega
theorem order1_spec {b : Nat} {a : Option Addr} {n c : Nat} {D : List Bool} (w : World) (h1 : (Hp.whole w).cell? ⟨b, 0, none⟩ = some (.slice a n c)) (hD : Sl (encF fB) 1 (Hp.whole w) a n c D) {x : Int} (h0 : 0 ≤ x) (hx : x.toNat < D.length) :
    CallsE Tryz.prog 126 #[.int .i64 x, .pointer (some ⟨b, 0, none⟩)] w (RetV w (.bool (!D[x.toNat]))) := by
  refine enter (X := cx 9) (cxg _) (args := [.int .i64 x, .pointer (some ⟨b, 0, none⟩)]) [.tmp 3] Tryz.func126 rfl rfl rfl rfl rfl ?_
  refine ld1 (cxg _) (i := 0) rfl h1 rfl ?_
  refine idx (cxg _) (e := 4) rfl hD x.toNat (by omega) hx (fun b o cs hcs hR hcell => ?_)
  subst hR
  refine ld1 (cxg _) (i := 0) rfl (hcell 0 _ rfl) rfl ?_
  exact ⟨[], ⟨rfl, rfl⟩, fun w' h => h⟩
/-! ### the order -/
theorem nxt_some {TT : List Tk} {out : List Nat} {i : Nat} (h : nxtT TT out = some i) : i < TT.length ∧ rdyT TT out i = true ∧ ∀ j, j < i → rdyT TT out j = false := by
  unfold nxtT at h
  rw [List.find?_range_eq_some] at h
  exact ⟨List.mem_range.1 h.2.1, h.1, fun j hj => by simpa using h.2.2 j hj⟩
theorem nxt_hit {TT : List Tk} {out : List Nat} {i : Nat} (hi : i < TT.length) (h : rdyT TT out i = true) (ho : ∀ j, j < i → rdyT TT out j = false) : nxtT TT out = some i := by
  unfold nxtT
  rw [List.find?_range_eq_some]
  exact ⟨h, List.mem_range.2 hi, fun j hj => by rw [ho j hj]; rfl⟩
theorem nxt_none {TT : List Tk} {out : List Nat} (ho : ∀ j, j < TT.length → rdyT TT out j = false) : nxtT TT out = none := by
  unfold nxtT
  rw [List.find?_eq_none]
  intro j hj
  rw [ho j (List.mem_range.1 hj)]; simp
theorem rdy_new {TT : List Tk} {out : List Nat} {i : Nat} (h : rdyT TT out i = true) : i ∉ out := by
  unfold rdyT at h
  rw [Bool.and_eq_true] at h
  simpa using h.1
theorem ordT_fine (TT : List Tk) : ∀ k, (ordT TT k).Nodup ∧ (∀ v ∈ ordT TT k, v < TT.length) ∧ (ordT TT k).length ≤ k
  | 0 => ⟨List.nodup_nil, (fun v h => by cases h), Nat.le_refl _⟩
  | k + 1 => by
    obtain ⟨h1, h2, h3⟩ := ordT_fine TT k
    unfold ordT
    split
    · rename_i i hi
      obtain ⟨g1, g2, _⟩ := nxt_some hi
      refine ⟨List.nodup_append.2 ⟨h1, by simp, fun a ha b hb e => rdy_new g2 ?_⟩, fun v hv => ?_, by simp; omega⟩
      · rw [List.mem_singleton.1 hb] at e; rw [← e]; exact ha
      · rcases List.mem_append.1 hv with hv | hv
        · exact h2 v hv
        · rw [List.mem_singleton.1 hv]; exact g1
    · exact ⟨h1, h2, by omega⟩
theorem ordT_le (TT : List Tk) (k : Nat) : (ordT TT k).length ≤ TT.length := by
  obtain ⟨h1, h2, _⟩ := ordT_fine TT k
  have := sub_len_of (M := List.range TT.length) h1 fun x hx => List.mem_range.2 (h2 x hx)
  rwa [List.length_range] at this
theorem ordT_stop {TT : List Tk} {k : Nat} (h : nxtT TT (ordT TT k) = none) : ∀ j, k ≤ j → ordT TT j = ordT TT k
  | 0, hj => by have : k = 0 := by omega
                subst this; rfl
  | j + 1, hj => by
    by_cases e : k = j + 1
    · subst e; rfl
    · have ih := ordT_stop h j (by omega)
      show (match nxtT TT (ordT TT j) with | some i => ordT TT j ++ [i] | none => ordT TT j) = _
      rw [ih, h]
def natL (L : List Nat) : List Int := L.map fun x : Nat => (x : Int)
set_option maxRecDepth 10000 in
theorem taskOrder_spec {a a' : Option Addr} {n c n' c' : Nat} {TT : List Tk} (w : World) (hT : Sl encT 4 (Hp.whole w) a n c TT) (hn : TT.length < 1000) (ha : ∀ t ∈ TT, t.af.length < 1000 ∧ ∀ x ∈ t.af, 0 ≤ x ∧ x < (TT.length : Int)) :
    CallsE Tryz.prog 101 #[sv a n c a' n' c'] w (Ret w fun v cs => ∃ o : Dw.Os, v = o.v ∧ cs = [.hp o.h] ∧ OwnO fI 3 1 o (natL (ordF TT))) := by
  have hlen := hT.len
  refine enter (X := cx 44) (cxg _) (args := [.agg #[.slice a n c, .slice a' n' c']]) [.tmp 2] Tryz.func101 rfl rfl rfl rfl rfl ?_
  intro b1
  refine mkO (f := fB) (cxg _) (e := 4) rfl TT.length false rfl (by omega) (by omega) rfl (by omega) fun oD0 hoD0n hoD0 => ?_
  intro b3
  have hd0 : List.replicate TT.length false = dnL TT.length (ordT TT 0) := by
    apply List.ext_getElem
    · simp [dnL]
    · intro j h1 h2; rw [dnL_get h2]; simp [ordT]
  rw [hd0] at hoD0
  refine NeedL.mk (Nat × Dw.Os × Dw.Os) (fun g => [(1, .bx 1 0), (3, .bx 2 0), (4, .v g.2.2.v)]) (fun g => [.hp (Hp.whole w), .box b1 [.slice a n c, .slice a' n' c'] 25, .box b3 [g.2.1.v] 99, .hp g.2.1.h, .hp g.2.2.h])
    (fun g => (ordT TT g.1).length = g.1 ∧ g.2.1.n = TT.length ∧ OwnO fB 4 1 g.2.1 (dnL TT.length (ordT TT g.1)) ∧ OwnO fI 3 1 g.2.2 (natL (ordT TT g.1))) (fun g => TT.length - g.1) (0, oD0, Os.nil) ⟨rfl, hoD0n, hoD0, OwnO.nil _ _ _⟩
    (Ent.mk (fun _ _ h => (h.pick [0, 1, 3, 2] rfl rfl).emp) rfl rfl) ?_
  rintro ⟨k, oD, oO⟩ ⟨hk, hDn, hoD, hoO⟩
  dsimp only at *
  have sD := OwnO.sl (f := fB) (fun _ => rfl) (by decide) hoD
  have hkl := ordT_le TT k
  obtain ⟨out, hout⟩ : ∃ out, out = ordT TT k := ⟨_, rfl⟩
  rw [← hout] at hk hoD hoO sD hkl
  have hDl := dnL_len TT.length out
  refine NeedL.mk Nat (fun i => [(1, .bx 1 0), (3, .bx 2 0), (4, .v oO.v), (5, .v (.int .i64 i))]) (fun _ => [.hp (Hp.whole w), .box b1 [.slice a n c, .slice a' n' c'] 25, .box b3 [oD.v] 99, .hp oD.h, .hp oO.h])
    (fun i => i ≤ TT.length ∧ ∀ j, j < i → rdyT TT out j = false) (fun i => TT.length - i) 0 ⟨Nat.zero_le _, fun j hj => by omega⟩ (Ent.mk (fun _ _ h => h) rfl rfl) ?_
  rintro i ⟨hi, ho⟩
  have next : rdyT TT out i = false → ∀ j, j < i + 1 → rdyT TT out j = false := fun h j hj => by
    rcases Nat.lt_or_ge j i with h1 | h1
    · exact ho j h1
    · have : j = i := by omega
      subst this; exact h
  refine hideQ (fun q' hq' => ?_)
  refine bsplitd (fun hlt => ?_) (fun hge => ?_)
  · have hiT : i < TT.length := by omega
    obtain ⟨t, ht⟩ : ∃ t, t = TT[i] := ⟨_, rfl⟩
    obtain ⟨hal, har⟩ := ha _ (List.getElem_mem hiT)
    rw [← ht] at hal har
    have htd : TT.getD i default = t := by rw [List.getD_eq_getElem?_getD, List.getElem?_eq_getElem hiT, ht]; rfl
    have hrd : rdyT TT out i = (!decide (i ∈ out) && t.af.all fun x => decide (x.toNat ∈ out)) := by unfold rdyT; rw [htd]
    obtain ⟨db, hdb⟩ : ∃ b, b = (dnL TT.length out)[i]'(by omega) := ⟨_, rfl⟩
    have hdg : db = decide (i ∈ out) := by rw [hdb]; exact dnL_get (by omega)
    refine idx (cxg _) (e := 4) rfl sD i rfl (by omega) (fun b o cs hcs hR hcell => ?_)
    rw [← hdb] at hR
    subst hR
    refine ld1 (cxg _) (i := 3) rfl (hcell 0 _ rfl) rfl ?_
    clear hdb
    refine bsplit (fun h => ?_) (fun h => ?_)
    · rw [hdg] at h
      refine hq' _ _ ?_
      refine nw (by omega) (by omega) ?_
      exact ⟨i + 1, ⟨by omega, next (by rw [hrd, h]; rfl)⟩, by omega, Ent.mk (fun _ _ h => h) rfl rfl⟩
    · rw [hdg] at h
      refine idx (cxg _) (e := 64) rfl hT i rfl hiT (fun b o cs hcs hR hcell => ?_)
      rw [← ht] at hR
      obtain ⟨a3, n3, c3, rfl, hs3⟩ := hR
      have l3 := hs3.len
      refine ld1 (cxg _) (i := 0) rfl (hcell 3 _ rfl) rfl ?_
      refine callV _ (fun w' hm => containsFuncInts_spec 126 (.pointer (some ⟨b3, 0, none⟩)) (fun x => !decide (x.toNat ∈ out)) w' (hs3.mono (encF_mono _) (hm 0 _ rfl)) (by omega) (fun w2 h2 x hx => ?_)) ?_
      · obtain ⟨r1, r2⟩ := har x hx
        have hxl : x.toNat < (dnL TT.length out).length := by omega
        have := order1_spec (b := b3) (a := oD.a) (n := oD.n) (c := oD.c) w2 (((hm 2 _ rfl).whole.trans h2.whole).cell (by simp [Ch.h, Hp.cell?, Hp.one, Os.v])) (sD.mono (encF_mono _) ((hm 3 _ rfl).whole.trans h2.whole)) r1 hxl
        rw [dnL_get hxl] at this
        exact this
      refine hq' _ _ ?_
      refine bsplit (fun h4 => ?_) (fun h4 => ?_)
      · refine nw (by omega) (by omega) ?_
        refine ⟨i + 1, ⟨by omega, next ?_⟩, by omega, Ent.mk (fun _ _ h => h) rfl rfl⟩
        rw [hrd, h, Bool.not_false, Bool.true_and, List.all_eq_false]
        obtain ⟨x, hx, hp⟩ := List.any_eq_true.1 h4
        exact ⟨x, hx, by simpa using hp⟩
      · have hr : rdyT TT out i = true := by
          rw [hrd, h, Bool.not_false, Bool.true_and, List.all_eq_true]
          intro x hx
          have := List.any_eq_false.1 h4 x hx
          simpa using this
        have hnx := nxt_hit hiT hr ho
        have hnew := rdy_new hr
        have hkN : k < TT.length := by
          have hf := ordT_fine TT (k + 1)
          have hle := ordT_le TT (k + 1)
          unfold ordT at hle
          rw [← hout, hnx, List.length_append, List.length_singleton] at hle
          omega
        have hst : ordT TT (k + 1) = out ++ [i] := by
          rw [show ordT TT (k + 1) = (match nxtT TT (ordT TT k) with | some i => ordT TT k ++ [i] | none => ordT TT k) from rfl, ← hout, hnx]
        refine dfalse (by omega) ?_
        refine oidx1 (cxg _) (e := 4) rfl rfl hoD i rfl (by omega) fun b9 hb9 => ?_
        refine osto (g := fun x : Bool => .bool x) (fun _ => rfl) (cxg _) (i := 3) rfl hb9 hoD (by omega) rfl rfl true rfl rfl rfl fun oD' e1 e2 e3 hoD' => ?_
        intro b42
        refine appO (f := fI) (cxg _) (e := 3) rfl (i := 4) rfl hoO (j := 5) (i : Int) rfl rfl rfl rfl (by unfold natL; rw [List.length_map]; omega) (fun oO' hoO' => ?_)
        have ev : oD'.v = oD.v := by unfold Os.v; rw [e1, e2, e3]
        refine ⟨(k + 1, oD', oO'), ⟨by dsimp only; rw [hst, List.length_append, List.length_singleton, hk], by dsimp only; omega, ?_, ?_⟩, by dsimp only; omega, Ent.mk (fun _ _ h => by dsimp only; rw [ev]; exact h.pick [0, 1, 2, 3, 4] rfl rfl) rfl rfl⟩
        · dsimp only; rw [hst, ← dnL_set]; exact hoD'
        · dsimp only; rw [hst]; unfold natL; rw [List.map_append]; exact hoO'
  · refine hq' _ _ ?_
    have hiN : i = TT.length := by omega
    subst hiN
    refine dtrue (by omega) ?_
    have hnn := nxt_none ho
    have hF : ordF TT = out := by
      unfold ordF
      rw [hout] at hnn ⊢
      exact ordT_stop hnn _ (by omega)
    rw [← hF] at hoO
    exact ⟨[.hp oO.h], ⟨oO, rfl, rfl, hoO⟩, fun w' h => h.pick [0, 4] rfl rfl⟩
end Go.Proofs.YtnlkffccobdbjaaGreat
namespace Go.Dw
open Go Go.RowKit
theorem beqS (a b : ByteArray) : (a == b) = decide (a = b) := by rw [beq_toListBytes, str_eq]
/-- block b is a map whose keys are KS, each with a slice -/
def OwnMS (h : Hp) (b : Nat) (KS : List ByteArray) (os : List Os) : Prop := KS.length = os.length ∧ ∃ es clock, h b = some (.map es clock) ∧ es.toList.map (fun e => (e.key, e.val)) = (KS.zip os).map fun p => (Value.string p.1, p.2.v)
def posK (t : ByteArray) (KS : List ByteArray) : Option Nat := KS.findIdx? fun k => decide (k = t)
theorem posK_none {t : ByteArray} {KS : List ByteArray} : posK t KS = none ↔ t ∉ KS := by
  unfold posK
  rw [List.findIdx?_eq_none_iff]
  constructor
  · intro h hm; have := h t hm; simp at this
  · intro h x hx; exact decide_eq_false fun e => h (e ▸ hx)
theorem posK_some {t : ByteArray} {KS : List ByteArray} {j : Nat} (h : posK t KS = some j) : ∃ hj : j < KS.length, KS[j] = t := by
  unfold posK at h
  rw [List.findIdx?_eq_some_iff_getElem] at h
  obtain ⟨h1, h2, _⟩ := h
  exact ⟨h1, of_decide_eq_true h2⟩
theorem findS {t : ByteArray} : ∀ {es : List MapEntry} {KS : List ByteArray} {os : List Os} (i : Nat), KS.length = os.length → es.map (fun e => (e.key, e.val)) = ((KS.zip os).map fun p => (Value.string p.1, p.2.v)) →
    Instr.findNow .string (.string t) es i = some (match posK t KS with | some j => some (i + j, (os.getD j Os.nil).v) | none => none)
  | [], KS, os, i, hl, h => by
    match KS, os, hl with
    | [], [], _ => rfl
    | k :: KS, o :: os, _ => simp at h
  | e :: es, KS, os, i, hl, h => by
    match KS, os, hl with
    | [], [], _ => simp at h
    | k :: KS, o :: os, hl =>
      simp only [List.zip_cons_cons, List.map_cons, List.cons.injEq, Prod.mk.injEq] at h
      obtain ⟨⟨h1, h2⟩, h3⟩ := h
      have ih := findS (t := t) (i + 1) (by simpa using hl) h3
      unfold Instr.findNow
      rw [h1]
      by_cases hk : k = t
      · subst hk
        have : posK k (k :: KS) = some 0 := by unfold posK; rw [List.findIdx?_cons]; simp
        rw [this]
        simp [Instr.sameNow, beqS, h2]
      · have hp : posK t (k :: KS) = (posK t KS).map (· + 1) := by unfold posK; rw [List.findIdx?_cons]; simp [hk]
        have hb : (t == k) = false := by rw [beqS]; exact decide_eq_false fun e => hk e.symm
        simp only [Instr.sameNow, hb]
        rw [ih, hp]
        cases posK t KS with
        | none => rfl
        | some j => simp [Nat.add_assoc, Nat.add_comm 1 j]
theorem run_checkKeyS {P : Program} {w : World} {kt : Nat} (hk : P.underlying kt = some .string) (e : Bool) (t : ByteArray) : (Instr.checkKey e 10000 kt (.string t)).run P w = .ok () w := by
  rw [show (10000 : Nat) = 9999 + 1 from rfl]
  unfold Instr.checkKey
  simp [underlying, hk]
theorem mkMS {P : Program} {s : List Ch} {T : Nat} {q : TV → List Ch → Prop} (hq : ∀ b h, OwnMS h b [] [] → q (.v (.map (some b))) (s ++ [.hp h])) : NeedE P s (Instr.makeMap T none) q := by
  refine ⟨fun w0 w hok => ⟨.v (.map (some w.heap.size)), _, w.alloc (.map #[] 0), _, ?_, hok.alloc (.hp (Hp.one w.heap.size (.map #[] 0))) _ rfl, Keep.app s _, rfl, hq _ _ ⟨rfl, #[], 0, Hp.one_self _ _, rfl⟩⟩⟩
  simp [Instr.makeMap]
theorem lookMS {P : Program} {s : List Ch} {T kt et : Nat} (hT : P.underlying T = some (.map kt et)) (hk : P.underlying kt = some .string) (hz : ∀ w, (zeroValue et).run P w = .ok (.slice none 0 0) w) {i : Nat} {h : Hp} (hi : sget s i = some (.hp h)) {b : Nat} {KS : List ByteArray} {os : List Os} (ho : OwnMS h b KS os) (t : ByteArray) {q : TV → List Ch → Prop}
    (hq : q (.v (match posK t KS with | some j => (os.getD j Os.nil).v | none => .slice none 0 0)) s) : NeedE P s (Instr.lookup T (.map (some b)) (.string t) false) q := by
  refine ⟨fun w0 w hok => ⟨_, _, w, s, ?_, hok, Keep.refl s, rfl, hq⟩⟩
  obtain ⟨hl, es, clock, h1, h2⟩ := ho
  have hb := hok.mem i _ hi b _ h1
  have hu : (underlying T).run P w = .ok (.map kt et) w := by simp [underlying, hT]
  have huk : (underlying kt).run P w = .ok .string w := by simp [underlying, hk]
  unfold Instr.lookup
  simp only [Sem.run_bind, hu, Result.andThen_ok, run_getMap hb, Sem.run_pure, run_checkKeyS hk, Instr.findKey, huk, findS 0 hl h2]
  cases posK t KS with
  | none => simp [hz w]
  | some j => simp
theorem updMS {P : Program} {s : List Ch} {T kt et : Nat} (hT : P.underlying T = some (.map kt et)) (hk : P.underlying kt = some .string) {i : Nat} {h : Hp} (hi : sget s i = some (.hp h)) {b : Nat} {KS : List ByteArray} {os : List Os} (ho : OwnMS h b KS os) (t : ByteArray) (o' : Os) {q : List Ch → Prop}
    (h1 : ∀ j h', posK t KS = some j → OwnMS h' b KS (os.set j o') → q (sset s i (.hp h')))
    (h2 : Sat s → ∀ h', posK t KS = none → OwnMS h' b (KS ++ [t]) (os ++ [o']) → q (sset s i (.hp h'))) : NeedU P s (Instr.mapUpdate T (.map (some b)) (.string t) o'.v) q := by
  refine ⟨fun w0 w hok => ?_⟩
  obtain ⟨hl, es, clock, g1, g2⟩ := ho
  have hb := hok.mem i _ hi b _ g1
  have hu : (underlying T).run P w = .ok (.map kt et) w := by simp [underlying, hT]
  have huk : (underlying kt).run P w = .ok .string w := by simp [underlying, hk]
  have hf := findS (t := t) 0 hl g2
  cases hp : posK t KS with
  | none =>
    rw [hp] at hf
    have hok2 := hok.putObj hi g1 (.map (es.push { key := .string t, val := o'.v, born := clock }) (clock + 1))
    refine ⟨_, _, ?_, hok2, Keep.set hi (fun b cs T e => by cases e), h2 ⟨w0, w, hok⟩ _ hp ⟨by simp [hl], _, _, Hp.upd_self _ _ _, ?_⟩⟩
    · unfold Instr.mapUpdate
      simp only [Sem.run_bind, hu, Result.andThen_ok, run_getMap hb, run_checkKeyS hk, Instr.findKey, huk, hf, Sem.run_pure]
      exact run_setMap _ hb
    · rw [List.zip_append hl]
      simp [g2]
  | some j =>
    rw [hp] at hf
    obtain ⟨hj, hjt⟩ := posK_some hp
    obtain ⟨f, hfd⟩ : ∃ f : MapEntry → MapEntry, f = fun e => { e with key := .string t, val := o'.v } := ⟨_, rfl⟩
    have hok2 := hok.putObj hi g1 (.map (es.modify j f) clock)
    have hlen : es.toList.length = KS.length := by have := congrArg List.length g2; simpa [hl] using this
    have hej : j < es.size := by have : es.toList.length = es.size := by simp
                                 omega
    have hkey : (es[j]?.map (·.key)).getD (.string t) = .string t := by
      have := congrArg (·[j]?) g2
      simp only [List.getElem?_map, Array.getElem?_toList] at this
      rw [Array.getElem?_eq_getElem hej] at this ⊢
      have hz : (KS.zip os)[j]? = some (KS[j], os[j]'(by omega)) := by
        rw [List.getElem?_eq_getElem (by simp; omega)]; simp
      rw [hz] at this
      simp only [Option.map_some, Option.some.injEq, Prod.mk.injEq] at this
      simp [this.1, hjt]
    refine ⟨_, _, ?_, hok2, Keep.set hi (fun b cs T e => by cases e), h1 j _ hp ⟨by simp [hl], _, _, Hp.upd_self _ _ _, ?_⟩⟩
    · unfold Instr.mapUpdate
      simp only [Sem.run_bind, hu, Result.andThen_ok, run_getMap hb, run_checkKeyS hk, Instr.findKey, huk, hf, Sem.run_pure, Nat.zero_add]
      rw [hkey]
      have hks : (Instr.keyThatStays (.string t) (.string t)).run P w = .ok (.string t) w := by
        unfold Instr.keyThatStays
        simp [Instr.sameBits, beqS]
      simp only [hks, Result.andThen_ok]
      rw [hfd]
      exact run_setMap _ hb
    · rw [Array.toList_modify]
      apply List.ext_getElem?
      intro m
      have hm := congrArg (·[m]?) g2
      simp only [List.getElem?_map] at hm
      rw [List.getElem?_map, List.getElem?_map, List.getElem?_modify]
      by_cases e : j = m
      · subst e
        have hz : (KS.zip (os.set j o'))[j]? = some (KS[j], o') := by
          rw [List.getElem?_eq_getElem (by simp; omega)]; simp
        rw [hz, Array.getElem?_toList, Array.getElem?_eq_getElem hej]
        simp [hfd, hjt]
      · have hz : (KS.zip (os.set j o'))[m]? = (KS.zip os)[m]? := by
          show (List.zipWith Prod.mk KS (os.set j o'))[m]? = (List.zipWith Prod.mk KS os)[m]?
          rw [List.getElem?_zipWith, List.getElem?_zipWith, List.getElem?_set_ne e]
        rw [hz]
        simp only [if_neg e]
        simpa using hm
end Go.Dw
namespace Go.Proofs.YtnlkffccobdbjaaGreat
open Go Go.RowKit Go.Dw
theorem any_take {α : Type} {p : α → Bool} {L : List α} {k : Nat} (h : k < L.length) : (L.take (k + 1)).any p = ((L.take k).any p || p L[k]) := by
  rw [List.take_succ_eq_append_getElem h, List.any_append]; simp
/-- what is known of the map's entries -/
structure Ent3 (H : Hp) (KS : List ByteArray) (os : List Dw.Os) (LL : List (List Int)) (m : Nat) : Prop where
  r : Rws fI 3 1 H os LL
  kl : KS.length = os.length
  pos : ∀ o ∈ os, 1 ≤ o.n
  le : ∀ L ∈ LL, L.length ≤ m
theorem Ent3.up {H : Hp} {KS : List ByteArray} {os : List Dw.Os} {LL : List (List Int)} {m m' : Nat} (h : Ent3 H KS os LL m) (hm : m ≤ m') : Ent3 H KS os LL m' := ⟨h.r, h.kl, h.pos, fun L hL => Nat.le_trans (h.le L hL) hm⟩
theorem Ent3.set {H H' : Hp} {KS : List ByteArray} {os : List Dw.Os} {LL : List (List Int)} {m : Nat} (h : Ent3 H KS os LL m) {j : Nat} (hj : j < LL.length) {o' : Dw.Os} {x : Int} (hr : Rws fI 3 1 H' (os.set j o') (LL.set j (LL[j] ++ [x]))) : Ent3 H' KS (os.set j o') (LL.set j (LL[j] ++ [x])) (m + 1) := by
  have hjo : j < os.length := by rw [h.r.len]; exact hj
  have hn := (hr.own j o' (LL[j] ++ [x]) (by rw [List.getElem?_set_self hjo]) (by rw [List.getElem?_set_self hj])).1.len
  refine ⟨hr, by rw [List.length_set]; exact h.kl, fun o ho => ?_, fun L hL => ?_⟩
  · rcases List.mem_or_eq_of_mem_set ho with h1 | rfl
    · exact h.pos o h1
    · rw [hn]; simp
  · rcases List.mem_or_eq_of_mem_set hL with h1 | rfl
    · have := h.le L h1; omega
    · have := h.le LL[j] (List.getElem_mem hj); simp; omega
theorem Ent3.add {H : Hp} {KS : List ByteArray} {os : List Dw.Os} {LL : List (List Int)} {m : Nat} (h : Ent3 H KS os LL m) {o' : Dw.Os} {x : Int} (ho : OwnO fI 3 1 o' ([] ++ [x])) (hdj : H.dj o'.h) (t : ByteArray) : Ent3 (H.join o'.h) (KS ++ [t]) (os ++ [o']) (LL ++ [[x]]) (m + 1) := by
  have hn := ho.len
  refine ⟨h.r.push ho hdj, by simp [h.kl], fun o hx => ?_, fun L hL => ?_⟩
  · rcases List.mem_append.1 hx with h1 | h1
    · exact h.pos o h1
    · rw [List.mem_singleton.1 h1, hn]; simp
  · rcases List.mem_append.1 hL with h1 | h1
    · have := h.le L h1; omega
    · rw [List.mem_singleton.1 h1]; simp
set_option maxRecDepth 10000 in
theorem taskTools_spec {a a' : Option Addr} {n c n' c' : Nat} {SS : List Sn} (w : World) (hS : Sl encN 2 (Hp.whole w) a' n' c' SS) (hn : SS.length < 1000) (ha : ∀ t ∈ SS, t.ts.length < 1000) :
    CallsE Tryz.prog 103 #[sv a n c a' n' c'] w (Ret w fun v cs => ∃ b hm KS os, v = .map (some b) ∧ cs = [.hp hm] ∧ OwnMS hm b KS os ∧ (∀ t, t ∈ KS ↔ SS.any (canS t) = true) ∧ ∀ o ∈ os, 1 ≤ o.n) := by
  have hlen := hS.len
  refine enterY (X := cx 41) (cxg _) (args := [.agg #[.slice a n c, .slice a' n' c']]) [.tmp 2] Tryz.func103 rfl rfl rfl rfl rfl ?_
  intro b1
  refine mkMS fun b hm0 hom0 => ?_
  refine NeedL.mk (Nat × Hp × Hp × List ByteArray × List Dw.Os × List (List Int)) (fun g => [(1, .bx 1 0), (3, .v (.map (some b))), (10, .v (.slice a' n' c')), (11, .v (.int .i64 n')), (12, .v (.int .i64 g.1))])
    (fun g => [.hp (Hp.whole w), .box b1 [.slice a n c, .slice a' n' c'] 25, .hp g.2.1, .hp g.2.2.1, .hp Hp.emp])
    (fun g => g.1 ≤ n' ∧ OwnMS g.2.1 b g.2.2.2.1 g.2.2.2.2.1 ∧ Ent3 g.2.2.1 g.2.2.2.1 g.2.2.2.2.1 g.2.2.2.2.2 (1001 * g.1) ∧ ∀ t, t ∈ g.2.2.2.1 ↔ (SS.take g.1).any (canS t) = true) (fun g => n' - g.1)
    (0, hm0, Hp.emp, [], [], []) ⟨Nat.zero_le _, hom0, ⟨Rws.nil _ _ _ _, rfl, (fun o h => by cases h), (fun L h => by cases h)⟩, fun t => by simp⟩ (Ent.mk (fun _ _ h => h.emp.emp) rfl rfl) ?_
  rintro ⟨i, hm, H, KS, os, LL⟩ ⟨hi, hom, he, hks⟩
  dsimp only at *
  refine bsplitd (fun hlt => ?_) (fun hge => ?_)
  · have hiS : i < SS.length := by omega
    obtain ⟨t, ht⟩ : ∃ t, t = SS[i] := ⟨_, rfl⟩
    have htl : t.ts.length < 1000 := ha _ (by rw [ht]; exact List.getElem_mem hiS)
    have htk : ∀ s, (SS.take (i + 1)).any (canS s) = ((SS.take i).any (canS s) || (decide (s = ByteArray.empty) || t.ts.any fun x => decide (x = s))) := fun s => by
      rw [any_take hiS, ← ht]; rfl
    refine idx (cxg _) (e := 60) rfl hS i rfl hiS (fun b9 o9 cs hcs hR hcell => ?_)
    rw [← ht] at hR
    obtain ⟨a3, n3, c3, rfl, hs3⟩ := hR
    have l3 := hs3.len
    refine ldn (cxg _) (i := 0) rfl hcell rfl ?_
    intro b5
    refine lookMS (i := 2) Tryz.underlying123 Tryz.underlying9 (fun _ => rfl) rfl hom ByteArray.empty ?_
    have inner : ∀ g1 : Hp × Hp × List ByteArray × List Dw.Os × List (List Int), (OwnMS g1.1 b g1.2.2.1 g1.2.2.2.1 ∧ Ent3 g1.2.1 g1.2.2.1 g1.2.2.2.1 g1.2.2.2.2 (1001 * i + 1) ∧ ∀ s, s ∈ g1.2.2.1 ↔ ((SS.take i).any (canS s) = true ∨ s = ByteArray.empty)) → True := fun _ _ => trivial
    clear inner
    cases hp : posK ByteArray.empty KS with
    | some j =>
      obtain ⟨hj, hjk⟩ := posK_some hp
      have hjo : j < os.length := by have := he.kl; omega
      have hjL : j < LL.length := by have := he.r.len; omega
      have hgd : os.getD j Os.nil = os[j] := by rw [List.getD_eq_getElem?_getD, List.getElem?_eq_getElem hjo]; rfl
      have hin := he.le LL[j] (List.getElem_mem hjL)
      dsimp only
      intro b21
      refine appR (f := fI) (cxg _) (e := 3) rfl (i := 3) rfl he.r hjL (by rw [hgd]) (j := 6) (i : Int) rfl rfl rfl rfl (by omega) (fun o' H' hr' => ?_)
      refine updMS (i := 2) Tryz.underlying123 Tryz.underlying9 rfl hom ByteArray.empty o' (fun j2 h2 e2 hom2 => ?_) (fun _ h2 e2 _ => by rw [hp] at e2; cases e2)
      obtain rfl : j = j2 := by rw [hp] at e2; exact Option.some.inj e2
      have he2 := he.set hjL hr'
      have hks2 : ∀ s, s ∈ KS ↔ ((SS.take i).any (canS s) = true ∨ s = ByteArray.empty) := fun s => by
        rw [← hks s]
        exact ⟨.inl, fun h => h.elim id fun e => by rw [e, ← hjk]; exact List.getElem_mem hj⟩
      clear hom he hr'
      refine NeedL.mk (Nat × Hp × Hp × List ByteArray × List Dw.Os × List (List Int)) (fun g => [(1, .bx 1 0), (3, .v (.map (some b))), (4, .v (.int .i64 i)), (10, .v (.slice a' n' c')), (11, .v (.int .i64 n')), (12, .v (.int .i64 i)), (24, .v (.slice a3 n3 c3)), (25, .v (.int .i64 n3)), (26, .v (.int .i64 g.1))])
        (fun g => [.hp (Hp.whole w), .box b1 [.slice a n c, .slice a' n' c'] 25, .hp g.2.1, .hp g.2.2.1, .hp Hp.emp])
        (fun g => g.1 ≤ n3 ∧ OwnMS g.2.1 b g.2.2.2.1 g.2.2.2.2.1 ∧ Ent3 g.2.2.1 g.2.2.2.1 g.2.2.2.2.1 g.2.2.2.2.2 (1001 * i + 1 + g.1) ∧ ∀ s, s ∈ g.2.2.2.1 ↔ ((SS.take i).any (canS s) = true ∨ s = ByteArray.empty) ∨ s ∈ t.ts.take g.1) (fun g => n3 - g.1)
        (0, h2, H', KS, os.set j o', LL.set j (LL[j] ++ [(i : Int)])) ⟨Nat.zero_le _, hom2, he2, fun s => by rw [hks2 s]; simp⟩ (Ent.mk (fun _ _ h => h.pick [0, 1, 2, 3, 4] rfl rfl) rfl rfl) ?_
      clear hom2 he2 hks2 hks
      rintro ⟨k, hm, H, KS, os, LL⟩ ⟨hk, hom, he, hks⟩
      dsimp only at *
      refine bsplitd (fun hltk => ?_) (fun hgek => ?_)
      · have hkt : k < t.ts.length := by omega
        obtain ⟨x, hx⟩ : ∃ x, x = t.ts[k] := ⟨_, rfl⟩
        have htk2 : ∀ s, s ∈ t.ts.take (k + 1) ↔ (s ∈ t.ts.take k ∨ s = x) := fun s => by rw [List.take_succ_eq_append_getElem hkt, List.mem_append, List.mem_singleton, ← hx]
        refine idx (cxg _) (e := 9) rfl hs3 k rfl hkt (fun b9 o9 cs hcs hR hcell => ?_)
        rw [← hx] at hR
        subst hR
        refine ld1 (cxg _) (i := 0) rfl (hcell 0 _ rfl) rfl ?_
        refine lookMS (i := 2) Tryz.underlying123 Tryz.underlying9 (fun _ => rfl) rfl hom x ?_
        cases hp : posK x KS with
        | some j =>
          obtain ⟨hj, hjk⟩ := posK_some hp
          have hjo : j < os.length := by have := he.kl; omega
          have hjL : j < LL.length := by have := he.r.len; omega
          have hgd : os.getD j Os.nil = os[j] := by rw [List.getD_eq_getElem?_getD, List.getElem?_eq_getElem hjo]; rfl
          have hin := he.le LL[j] (List.getElem_mem hjL)
          dsimp only
          intro b36
          refine appR (f := fI) (cxg _) (e := 3) rfl (i := 3) rfl he.r hjL (by rw [hgd]) (j := 5) (i : Int) rfl rfl rfl rfl (by omega) (fun o' H' hr' => ?_)
          refine updMS (i := 2) Tryz.underlying123 Tryz.underlying9 rfl hom x o' (fun j2 h2 e2 hom2 => ?_) (fun _ h2 e2 _ => by rw [hp] at e2; cases e2)
          obtain rfl : j = j2 := by rw [hp] at e2; exact Option.some.inj e2
          refine nw (by omega) (by omega) ?_
          refine ⟨(k + 1, h2, H', KS, os.set j o', LL.set j (LL[j] ++ [(i : Int)])), ⟨by dsimp only; omega, hom2, he.set hjL hr', fun s => ?_⟩, by dsimp only; omega, Ent.mk (fun _ _ h => h.pick [0, 1, 2, 3, 4] rfl rfl) rfl rfl⟩
          dsimp only
          rw [htk2, hks s]
          constructor
          · rintro (h | h)
            · exact .inl h
            · exact .inr (.inl h)
          · rintro (h | h | h)
            · exact .inl h
            · exact .inr h
            · have := (hks KS[j]).1 (List.getElem_mem hj)
              rw [hjk, ← h] at this; exact this
        | none =>
          dsimp only
          intro b36
          refine appO (f := fI) (cxg _) (e := 3) rfl (i := 4) (o := Os.nil) rfl (OwnO.nil fI 3 1) (j := 5) (i : Int) rfl rfl rfl rfl (by simp) (fun o' ho' => ?_)
          refine updMS (i := 2) Tryz.underlying123 Tryz.underlying9 rfl hom x o' (fun j2 h2 e2 _ => by rw [hp] at e2; cases e2) (fun hsat h2 e2 hom2 => ?_)
          refine nw (by omega) (by omega) ?_
          refine ⟨(k + 1, h2, H.join o'.h, KS ++ [x], os ++ [o'], LL ++ [[(i : Int)]]), ⟨by dsimp only; omega, hom2, he.add ho' (hsat.dj 3 4 rfl rfl (by decide)) x, fun s => ?_⟩, by dsimp only; omega, Ent.mk (fun _ _ h => Ok.emp (Ok.pick [0, 2, 3, 1] rfl rfl (Ok.join (c := .hp (Hp.whole w)) (Ok.pick [0, 3, 4, 1, 2] rfl rfl h)))) rfl rfl⟩
          dsimp only
          rw [htk2, List.mem_append, hks s, List.mem_singleton]
          constructor
          · rintro ((h | h) | h)
            · exact .inl h
            · exact .inr (.inl h)
            · exact .inr (.inr h)
          · rintro (h | h | h)
            · exact .inl (.inl h)
            · exact .inl (.inr h)
            · exact .inr h
      · refine nw (by omega) (by omega) ?_
        refine ⟨(i + 1, hm, H, KS, os, LL), ⟨by dsimp only; omega, hom, he.up (by omega), fun s => ?_⟩, by dsimp only; omega, Ent.mk (fun _ _ h => h) rfl rfl⟩
        dsimp only
        rw [hks s, htk s, show t.ts.take k = t.ts from List.take_of_length_le (by omega), Bool.or_eq_true, Bool.or_eq_true, decide_eq_true_eq, or_assoc]
        refine or_congr Iff.rfl (or_congr Iff.rfl ⟨fun h => List.any_eq_true.2 ⟨s, h, decide_eq_true rfl⟩, fun h => ?_⟩)
        obtain ⟨x, hx, e⟩ := List.any_eq_true.1 h
        rw [← of_decide_eq_true e]; exact hx
    | none =>
      have hnk := posK_none.1 hp
      dsimp only
      intro b21
      refine appO (f := fI) (cxg _) (e := 3) rfl (i := 4) (o := Os.nil) rfl (OwnO.nil fI 3 1) (j := 6) (i : Int) rfl rfl rfl rfl (by simp) (fun o' ho' => ?_)
      refine updMS (i := 2) Tryz.underlying123 Tryz.underlying9 rfl hom ByteArray.empty o' (fun j2 h2 e2 _ => by rw [hp] at e2; cases e2) (fun hsat h2 e2 hom2 => ?_)
      have he2 := he.add ho' (hsat.dj 3 4 rfl rfl (by decide)) ByteArray.empty
      have hks2 : ∀ s, s ∈ KS ++ [ByteArray.empty] ↔ ((SS.take i).any (canS s) = true ∨ s = ByteArray.empty) := fun s => by
        rw [List.mem_append, hks s, List.mem_singleton]
      clear hom he
      refine NeedL.mk (Nat × Hp × Hp × List ByteArray × List Dw.Os × List (List Int)) (fun g => [(1, .bx 1 0), (3, .v (.map (some b))), (4, .v (.int .i64 i)), (10, .v (.slice a' n' c')), (11, .v (.int .i64 n')), (12, .v (.int .i64 i)), (24, .v (.slice a3 n3 c3)), (25, .v (.int .i64 n3)), (26, .v (.int .i64 g.1))])
        (fun g => [.hp (Hp.whole w), .box b1 [.slice a n c, .slice a' n' c'] 25, .hp g.2.1, .hp g.2.2.1, .hp Hp.emp])
        (fun g => g.1 ≤ n3 ∧ OwnMS g.2.1 b g.2.2.2.1 g.2.2.2.2.1 ∧ Ent3 g.2.2.1 g.2.2.2.1 g.2.2.2.2.1 g.2.2.2.2.2 (1001 * i + 1 + g.1) ∧ ∀ s, s ∈ g.2.2.2.1 ↔ ((SS.take i).any (canS s) = true ∨ s = ByteArray.empty) ∨ s ∈ t.ts.take g.1) (fun g => n3 - g.1)
        (0, h2, H.join o'.h, KS ++ [ByteArray.empty], os ++ [o'], LL ++ [[(i : Int)]]) ⟨Nat.zero_le _, hom2, he2, fun s => by rw [hks2 s]; simp⟩ (Ent.mk (fun _ _ h => Ok.emp (Ok.pick [0, 2, 3, 1] rfl rfl (Ok.join (c := .hp (Hp.whole w)) (Ok.pick [0, 3, 4, 1, 2] rfl rfl h)))) rfl rfl) ?_
      clear hom2 he2 hks2 hks
      rintro ⟨k, hm, H, KS, os, LL⟩ ⟨hk, hom, he, hks⟩
      dsimp only at *
      refine bsplitd (fun hltk => ?_) (fun hgek => ?_)
      · have hkt : k < t.ts.length := by omega
        obtain ⟨x, hx⟩ : ∃ x, x = t.ts[k] := ⟨_, rfl⟩
        have htk2 : ∀ s, s ∈ t.ts.take (k + 1) ↔ (s ∈ t.ts.take k ∨ s = x) := fun s => by rw [List.take_succ_eq_append_getElem hkt, List.mem_append, List.mem_singleton, ← hx]
        refine idx (cxg _) (e := 9) rfl hs3 k rfl hkt (fun b9 o9 cs hcs hR hcell => ?_)
        rw [← hx] at hR
        subst hR
        refine ld1 (cxg _) (i := 0) rfl (hcell 0 _ rfl) rfl ?_
        refine lookMS (i := 2) Tryz.underlying123 Tryz.underlying9 (fun _ => rfl) rfl hom x ?_
        cases hp : posK x KS with
        | some j =>
          obtain ⟨hj, hjk⟩ := posK_some hp
          have hjo : j < os.length := by have := he.kl; omega
          have hjL : j < LL.length := by have := he.r.len; omega
          have hgd : os.getD j Os.nil = os[j] := by rw [List.getD_eq_getElem?_getD, List.getElem?_eq_getElem hjo]; rfl
          have hin := he.le LL[j] (List.getElem_mem hjL)
          dsimp only
          intro b36
          refine appR (f := fI) (cxg _) (e := 3) rfl (i := 3) rfl he.r hjL (by rw [hgd]) (j := 5) (i : Int) rfl rfl rfl rfl (by omega) (fun o' H' hr' => ?_)
          refine updMS (i := 2) Tryz.underlying123 Tryz.underlying9 rfl hom x o' (fun j2 h2 e2 hom2 => ?_) (fun _ h2 e2 _ => by rw [hp] at e2; cases e2)
          obtain rfl : j = j2 := by rw [hp] at e2; exact Option.some.inj e2
          refine nw (by omega) (by omega) ?_
          refine ⟨(k + 1, h2, H', KS, os.set j o', LL.set j (LL[j] ++ [(i : Int)])), ⟨by dsimp only; omega, hom2, he.set hjL hr', fun s => ?_⟩, by dsimp only; omega, Ent.mk (fun _ _ h => h.pick [0, 1, 2, 3, 4] rfl rfl) rfl rfl⟩
          dsimp only
          rw [htk2, hks s]
          constructor
          · rintro (h | h)
            · exact .inl h
            · exact .inr (.inl h)
          · rintro (h | h | h)
            · exact .inl h
            · exact .inr h
            · have := (hks KS[j]).1 (List.getElem_mem hj)
              rw [hjk, ← h] at this; exact this
        | none =>
          dsimp only
          intro b36
          refine appO (f := fI) (cxg _) (e := 3) rfl (i := 4) (o := Os.nil) rfl (OwnO.nil fI 3 1) (j := 5) (i : Int) rfl rfl rfl rfl (by simp) (fun o' ho' => ?_)
          refine updMS (i := 2) Tryz.underlying123 Tryz.underlying9 rfl hom x o' (fun j2 h2 e2 _ => by rw [hp] at e2; cases e2) (fun hsat h2 e2 hom2 => ?_)
          refine nw (by omega) (by omega) ?_
          refine ⟨(k + 1, h2, H.join o'.h, KS ++ [x], os ++ [o'], LL ++ [[(i : Int)]]), ⟨by dsimp only; omega, hom2, he.add ho' (hsat.dj 3 4 rfl rfl (by decide)) x, fun s => ?_⟩, by dsimp only; omega, Ent.mk (fun _ _ h => Ok.emp (Ok.pick [0, 2, 3, 1] rfl rfl (Ok.join (c := .hp (Hp.whole w)) (Ok.pick [0, 3, 4, 1, 2] rfl rfl h)))) rfl rfl⟩
          dsimp only
          rw [htk2, List.mem_append, hks s, List.mem_singleton]
          constructor
          · rintro ((h | h) | h)
            · exact .inl h
            · exact .inr (.inl h)
            · exact .inr (.inr h)
          · rintro (h | h | h)
            · exact .inl (.inl h)
            · exact .inl (.inr h)
            · exact .inr h
      · refine nw (by omega) (by omega) ?_
        refine ⟨(i + 1, hm, H, KS, os, LL), ⟨by dsimp only; omega, hom, he.up (by omega), fun s => ?_⟩, by dsimp only; omega, Ent.mk (fun _ _ h => h) rfl rfl⟩
        dsimp only
        rw [hks s, htk s, show t.ts.take k = t.ts from List.take_of_length_le (by omega), Bool.or_eq_true, Bool.or_eq_true, decide_eq_true_eq, or_assoc]
        refine or_congr Iff.rfl (or_congr Iff.rfl ⟨fun h => List.any_eq_true.2 ⟨s, h, decide_eq_true rfl⟩, fun h => ?_⟩)
        obtain ⟨x, hx, e⟩ := List.any_eq_true.1 h
        rw [← of_decide_eq_true e]; exact hx
  · rw [List.take_of_length_le (by omega)] at hks
    exact ⟨[.hp hm], ⟨b, hm, KS, os, rfl, rfl, hom, hks, he.pos⟩, fun w' h => h.pick [0, 2] rfl rfl⟩
end Go.Proofs.YtnlkffccobdbjaaGreat
